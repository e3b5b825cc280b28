/- This text walks the heap's functions over keys and ranks of one kind (ii): printed by gen.py. -/
import Derived.Test.YtiocnkoogachkaaHxii
import Derived.Test.YtiocnkoogachkaaHdrii
namespace Go.Proofs.Ytiocnkoogachkaa.Hii
open Go.RowKit Go.Proofs.YtiocnkoogachkaaW.PrintWords Go.Proofs.Ytiocnkoogachkaa.Mp Go.Proofs.Ytiocnkoogachkaa.Hp
set_option linter.unusedVariables false
set_option linter.unusedSimpArgs false
theorem rep_new (w : World) (lv : Value) (W : World) (h : W = ((w.alloc (.map #[] 0)).alloc (.cells #[lv, .slice none 0 0, .map (some w.heap.size), .int .i64 0] 84))) :
    Rep F W w.heap.size (w.heap.size + 1) w.heap.size lv (.slice none 0 0) [] 0 ∧ Kp w W (fun _ => False) := by
  subst h
  have k1 : Kp (w.alloc (.map #[] 0)) ((w.alloc (.map #[] 0)).alloc (.cells #[lv, .slice none 0 0, .map (some w.heap.size), .int .i64 0] 84)) (fun _ => False) := (Kp.refl _ _).alloc _
  refine ⟨⟨?_, ⟨rfl, .inl ⟨rfl, rfl⟩⟩, ?_, List.nodup_nil, by omega, by omega⟩, ((Kp.refl w _).alloc _).alloc _⟩
  · have h := (MapKept.heap_alloc (w.alloc (.map #[] 0)) (.cells #[lv, .slice none 0 0, .map (some w.heap.size), .int .i64 0] 84)).1
    rw [show (w.alloc (.map #[] 0)).heap.size = w.heap.size + 1 from by show (w.heap.push _).size = _; simp] at h
    exact h
  · exact ((MapAt.made (d := F.d) (kv := F.kv) w).kept k1 (fun h => h)).congr (fun k => rfl)
theorem new_calls (F0 : Nat) (cp : Array Value) (w : World) : Calls Try.prog 25 #[.func (.func F0) #[] cp] w fun e w' => e = .returned (.pointer (some ⟨w.heap.size + 1, 0, none⟩)) ∧ Rep F w' w.heap.size (w.heap.size + 1) w.heap.size (.func (.func F0) #[] cp) (.slice none 0 0) [] 0 ∧ Kp w w' (fun _ => False) := by
  have hmm := @run_makeMap Try.prog
  have hq : (binOp BinOp.eql 30 (Value.func (Fn.func F0) #[] cp) Value.nilFunc).run Try.prog w = .ok (.bool false) w := by kernel_rfl
  go_enter Try.func25, Try.ntmps25
  go_wp2
  go_ret
  exact ⟨rfl, rep_new w _ _ rfl⟩
end Go.Proofs.Ytiocnkoogachkaa.Hii
