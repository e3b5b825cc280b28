/- This text walks the heap's functions over keys and ranks of one kind (ii): printed by gen.py. -/
import Derived.Test.YtiocnkoogachkaaHw
import Derived.Test.YtiocnkoogachkaaHputii
namespace Go.Proofs.Ytiocnkoogachkaa.Hii
open Go.RowKit Go.Proofs.YtiocnkoogachkaaW.PrintWords Go.Proofs.Ytiocnkoogachkaa.Mp Go.Proofs.Ytiocnkoogachkaa.Hp
set_option linter.unusedVariables false
set_option linter.unusedSimpArgs false
theorem push_in {base hb pb : Nat} {lv sv : Value} {L0 : List (It Int Int)} {c : Int} {w : World} (R : Rep F w base hb pb lv sv L0 c) {i : Nat} {x : It Int Int} (hx : L0[i]? = some x) (p : Int) :
    Calls Try.prog 31 #[.pointer (some ⟨hb, 0, none⟩), .int .i64 x.key, .int .i64 p] w fun e w' => e = .returned (.bool false) ∧ w = w' := by
  have hlook : (Instr.lookup 81 (.map (some pb)) (.int .i64 x.key) true).run Try.prog w = .ok (.tuple #[.int .i64 (i : Int), .bool true]) w := by
    have h := R.map.look F.KV Try.underlying81 Try.underlying3 (z := .int .i64 0) (by kernel_rfl) x.key
    rw [(place_iff R.nodup x.key i).2 ⟨x, hx, rfl⟩] at h
    exact h
  have c2 : w.cell? ⟨hb, 2, none⟩ = some (.map (some pb)) := (blk_cell R.head 2).trans rfl
  clear R hx
  go_enter Try.func31, Try.ntmps31
  go_wp2
  go_ret
  exact ⟨rfl, rfl⟩
theorem peek_nil {base hb pb : Nat} {lv sv : Value} {L0 : List (It Int Int)} {c : Int} {w : World} (R : Rep F w base hb pb lv sv L0 c) (hn : L0 = []) :
    Calls Try.prog 33 #[.pointer (some ⟨hb, 0, none⟩)] w fun e w' => e = .returned (.tuple #[.int .i64 (0 : Int), .int .i64 0, .bool false]) ∧ w = w' := by
  obtain ⟨a, cap, hsv⟩ : ∃ a cap, sv = .slice a L0.length cap := by
    rcases R.own.2 with ⟨hv, h⟩ | ⟨g, cap, _, h, _⟩
    · exact ⟨none, 0, by rw [hv, h]⟩
    · exact ⟨_, _, h⟩
  have c1 : w.cell? ⟨hb, 1, none⟩ = some (.slice a L0.length cap) := (blk_cell R.head 1).trans (by rw [hsv]; rfl)
  clear R hsv
  subst hn
  simp only [List.length_nil] at c1
  go_enter Try.func33, Try.ntmps33
  go_wp2
  go_ret3
  exact ⟨rfl, rfl⟩
set_option maxRecDepth 100000 in
theorem peek_cons {base hb pb : Nat} {lv sv : Value} {L0 : List (It Int Int)} {c : Int} {w : World} (R : Rep F w base hb pb lv sv L0 c) {x : It Int Int} (hx : L0[0]? = some x) :
    Calls Try.prog 33 #[.pointer (some ⟨hb, 0, none⟩)] w fun e w' => e = .returned (.tuple #[.int .i64 x.key, .int .i64 x.rank, .bool true]) ∧ Kp w w' (fun _ => False) := by
  have hi := (List.getElem?_eq_some_iff.1 hx).1
  obtain ⟨g, cap, rfl⟩ := R.slice (by omega)
  have c1 : w.cell? ⟨hb, 1, none⟩ = some (.slice (some ⟨g, 0, none⟩) L0.length cap) := (blk_cell R.head 1).trans rfl
  have i0 : w.cell? ⟨g, 0, none⟩ = some (.int .i64 x.key) := own_cell R.own _ _ (by have := flat_get F L0 0 0 x hx (by decide); rw [Nat.zero_mul, Nat.zero_add] at this; exact this.trans rfl)
  have i1 : w.cell? ⟨g, 1, none⟩ = some (.int .i64 x.rank) := own_cell R.own _ _ (by have := flat_get F L0 0 1 x hx (by decide); rw [Nat.zero_mul, Nat.zero_add] at this; exact this.trans rfl)
  have hne : ((L0.length : Int) == 0) = false := beq_eq_false_iff_ne.2 (by omega)
  clear R hx
  go_enter Try.func33, Try.ntmps33
  go_wp2
  go_region
  go_wp2
  go_ret3
  exact ⟨rfl, (Kp.refl w _).drew⟩
theorem drop_absent {base hb pb : Nat} {lv sv : Value} {L0 : List (It Int Int)} {c : Int} {w : World} (R : Rep F w base hb pb lv sv L0 c) {k : Int} (hk : k ∉ keys L0) :
    Calls Try.prog 34 #[.pointer (some ⟨hb, 0, none⟩), .int .i64 k] w fun e w' => e = .returned (.bool false) ∧ w = w' := by
  have hlook : (Instr.lookup 81 (.map (some pb)) (.int .i64 k) true).run Try.prog w = .ok (.tuple #[.int .i64 0, .bool false]) w := by
    have h := R.map.look F.KV Try.underlying81 Try.underlying3 (z := .int .i64 0) (by kernel_rfl) k
    rw [(place_none k).2 hk] at h
    exact h
  have c2 : w.cell? ⟨hb, 2, none⟩ = some (.map (some pb)) := (blk_cell R.head 2).trans rfl
  clear R hk
  go_enter Try.func34, Try.ntmps34
  go_wp2
  go_ret
  exact ⟨rfl, rfl⟩
end Go.Proofs.Ytiocnkoogachkaa.Hii
