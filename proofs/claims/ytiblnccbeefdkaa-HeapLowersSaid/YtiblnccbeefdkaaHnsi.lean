/- This text walks the heap's functions over keys and ranks of one kind (si): printed by gen.py. -/
import Derived.Test.YtiblnccbeefdkaaHxsi
import Derived.Test.YtiblnccbeefdkaaHdrsi
namespace Go.Proofs.Ytiblnccbeefdkaa.Hsi
open Go.RowKit Go.Proofs.YtiblnccbeefdkaaW.PrintWords Go.Proofs.Ytiblnccbeefdkaa.Mp Go.Proofs.Ytiblnccbeefdkaa.Hp
set_option linter.unusedVariables false
set_option linter.unusedSimpArgs false
theorem pop_nil {base hb pb : Nat} {lv sv : Value} {L0 : List (It ByteArray Int)} {c : Int} {w : World} (R : Rep F w base hb pb lv sv L0 c) (hn : L0 = []) :
    Calls Try.prog 32 #[.pointer (some ⟨hb, 0, none⟩)] w fun e w' => e = .returned (.tuple #[.string (ByteArray.empty), .int .i64 0, .bool false]) ∧ w = w' := by
  go_enter Try.func32, Try.ntmps32
  go_wp2_with (first | (go_at_call 50; refine (peek_nil R hn).mono ?_; rintro e w' ⟨rfl, rfl⟩))
  go_ret3
  exact ⟨rfl, rfl⟩
set_option maxHeartbeats 1000000 in
theorem pop_cons {A : Int → Int → Bool → Prop} {I : World → Prop} {S : Nat → Prop} {base : Nat} {lv : Value} (L : LessOk Try.prog (Value.int .i64) A lv I S base) {hb pb : Nat} {sv : Value} {L0 : List (It ByteArray Int)} {c : Int} {w : World} (R : Rep F w base hb pb lv sv L0 c) (hI : I w) {x : It ByteArray Int} (hx : L0[0]? = some x) (hn : L0.length ≤ 1048576) :
    Calls Try.prog 32 #[.pointer (some ⟨hb, 0, none⟩)] w fun e w' => e = .returned (.tuple #[.string x.key, .int .i64 x.rank, .bool true]) ∧ ∃ sv' L1, DropR A L0 0 L1 ∧ Rep F w' base hb pb lv sv' L1 c ∧ I w' ∧ Kp w w' (fun k => Mine hb pb sv k ∨ S k) ∧ sv'.ownBlock = sv.ownBlock := by
  have HR := Aside0.mk R
  have HI := Aside0.mk hI
  have HL := Aside0.mk L
  have HX := Aside0.mk hx
  have HN := Aside0.mk hn
  clear R hI L hx hn
  go_enter Try.func32, Try.ntmps32
  go_wp2_with fail
  refine (peek_cons HR.out HX.out).mono ?_
  rintro e w1 ⟨rfl, hK⟩
  have HK := Aside0.mk hK
  have HI1 : Aside0 (I w1) := ⟨HL.out.stable _ _ HI.out (fun k hk => hK.2 k (Nat.lt_of_lt_of_le hk HR.out.size) (fun h => h))⟩
  have HR1 := Aside0.mk (HR.out.kept hK (fun _ h => h.elim))
  clear hK
  go_wp2_with fail
  refine (drop_in HL.out HR1.out HI1.out HX.out HN.out).mono ?_
  rintro e w2 ⟨rfl, sv', L1, h1, h2, h3, h4, h5⟩
  have FIN : Aside0 (∃ sv' L1, DropR A L0 0 L1 ∧ Rep F w2 base hb pb lv sv' L1 c ∧ I w2 ∧ Kp w w2 (fun k => Mine hb pb sv k ∨ S k) ∧ sv'.ownBlock = sv.ownBlock) :=
    ⟨sv', L1, h1, h2, h3, Kp.then_ (HK.out.mono (fun _ h => h.elim)) h4 (fun k hk => .inl hk), h5⟩
  clear h1 h2 h3 h4 h5
  go_wp2
  go_ret3
  exact ⟨rfl, FIN.out⟩
theorem rep_new (w : World) (lv : Value) (W : World) (h : W = ((w.alloc (.map #[] 0)).alloc (.cells #[lv, .slice none 0 0, .map (some w.heap.size), .int .i64 0] 86))) :
    Rep F W w.heap.size (w.heap.size + 1) w.heap.size lv (.slice none 0 0) [] 0 ∧ Kp w W (fun _ => False) := by
  subst h
  have k1 : Kp (w.alloc (.map #[] 0)) ((w.alloc (.map #[] 0)).alloc (.cells #[lv, .slice none 0 0, .map (some w.heap.size), .int .i64 0] 86)) (fun _ => False) := (Kp.refl _ _).alloc _
  refine ⟨⟨?_, ⟨rfl, .inl ⟨rfl, rfl⟩⟩, ?_, List.nodup_nil, by omega, by omega⟩, ((Kp.refl w _).alloc _).alloc _⟩
  · have h := (MapKept.heap_alloc (w.alloc (.map #[] 0)) (.cells #[lv, .slice none 0 0, .map (some w.heap.size), .int .i64 0] 86)).1
    rw [show (w.alloc (.map #[] 0)).heap.size = w.heap.size + 1 from by show (w.heap.push _).size = _; simp] at h
    exact h
  · exact ((MapAt.made (d := F.d) (kv := F.kv) w).kept k1 (fun h => h)).congr (fun k => rfl)
theorem new_calls (F0 : Nat) (cp : Array Value) (w : World) : Calls Try.prog 28 #[.func (.func F0) #[] cp] w fun e w' => e = .returned (.pointer (some ⟨w.heap.size + 1, 0, none⟩)) ∧ Rep F w' w.heap.size (w.heap.size + 1) w.heap.size (.func (.func F0) #[] cp) (.slice none 0 0) [] 0 ∧ Kp w w' (fun _ => False) := by
  have hmm := @run_makeMap Try.prog
  have hq : (binOp BinOp.eql 25 (Value.func (Fn.func F0) #[] cp) Value.nilFunc).run Try.prog w = .ok (.bool false) w := by kernel_rfl
  go_enter Try.func28, Try.ntmps28
  go_wp2
  go_ret
  exact ⟨rfl, rep_new w _ _ rfl⟩
end Go.Proofs.Ytiblnccbeefdkaa.Hsi
