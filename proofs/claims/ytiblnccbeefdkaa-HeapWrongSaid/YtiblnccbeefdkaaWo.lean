/- This text walks the order that HeapWrong hands to its heap, which counts how often it is asked, and the law's search of a list. -/
import Derived.Test.YtiblnccbeefdkaaHpjii
import Derived.Test.YtiblnccbeefdkaaAw
namespace Go.Proofs.Ytiblnccbeefdkaa.Wr
open Go.RowKit Go.Proofs.YtiblnccbeefdkaaW.PrintWords Go.Proofs.Ytiblnccbeefdkaa.Mp Go.Proofs.Ytiblnccbeefdkaa.Hp
set_option linter.unusedVariables false

/-- What the order finds in memory: the count and the list of what it says. -/
structure JW (ab sb : Nat) (A : Option Addr) (len cap : Nat) (B : Nat → Bool) (k : Nat) (w : World) : Prop where
  ask : ∃ v : Nat, w.heap[ab]? = some (.cells #[.int .i64 v] 3 (0, 0)) ∧ v + k < 9223372036854775807
  says : w.heap[sb]? = some (.cells #[.slice A len cap] 32 (0, 0))
  row : ∀ i, i < len → ∃ a, A = some a ∧ (a.add i).block < ab ∧ w.cell? (a.add i) = some (.bool (B i))
  sep : ab ≠ sb
  small : len ≤ 9223372036854775807

theorem cell_same {w w2 : World} {a : Addr} {v : Value} (h : w.cell? a = some v) (e : w2.heap[a.block]? = w.heap[a.block]?) : w2.cell? a = some v := by
  obtain ⟨ab, ao, ap⟩ := a
  simp only [World.cell?] at h ⊢
  rw [e]
  exact h
theorem JW.kept {ab sb : Nat} {A : Option Addr} {len cap : Nat} {B : Nat → Bool} {k : Nat} {w w2 : World} (h : JW ab sb A len cap B k w) {base : Nat} (h1 : ab < base) (h2 : sb < base) (he : ∀ i, i < base → w2.heap[i]? = w.heap[i]?) : JW ab sb A len cap B k w2 := by
  obtain ⟨v, hv, hk⟩ := h.ask
  refine ⟨⟨v, (he _ h1).trans hv, hk⟩, (he _ h2).trans h.says, fun i hi => ?_, h.sep, h.small⟩
  obtain ⟨a, ha, hb, hc⟩ := h.row i hi
  exact ⟨a, ha, hb, cell_same hc (he _ (by omega))⟩
theorem JW.less {ab sb : Nat} {A : Option Addr} {len cap : Nat} {B : Nat → Bool} {k : Nat} {w : World} (h : JW ab sb A len cap B (k + 1) w) : JW ab sb A len cap B k w := by
  obtain ⟨v, hv, hk⟩ := h.ask
  exact ⟨⟨v, hv, by omega⟩, h.says, h.row, h.sep, h.small⟩
theorem JW.drew {ab sb : Nat} {A : Option Addr} {len cap : Nat} {B : Nat → Bool} {k : Nat} {w : World} (h : JW ab sb A len cap B k w) : JW ab sb A len cap B k w.drew := ⟨h.ask, h.says, h.row, h.sep, h.small⟩
theorem JW.step {ab sb : Nat} {A : Option Addr} {len cap : Nat} {B : Nat → Bool} {k v : Nat} {w w2 : World} (h : JW ab sb A len cap B (k + 1) w) (hv : w.heap[ab]? = some (.cells #[.int .i64 v] 3 (0, 0))) (hk : v + (k + 1) < 9223372036854775807) (hw : w.setCell ⟨ab, 0, none⟩ (.int .i64 ((v : Int) + 1)) = w2) :
    JW ab sb A len cap B k w2 ∧ Kp w w2 (fun i => i = ab) := by
  have kp : Kp w w2 (fun i => i = ab) := by
    rw [← hw]
    refine Kp.setCell ?_ (by left; rfl) _
    exact Kp.refl _ _
  refine ⟨⟨⟨v + 1, ?_, by omega⟩, blk_kp h.says kp (fun e => h.sep e.symm), fun i hi => ?_, h.sep, h.small⟩, kp⟩
  · rw [← hw, show ((v + 1 : Nat) : Int) = (v : Int) + 1 by omega]
    exact blk_put hv 0 _ rfl
  · obtain ⟨a, ha, hb, hc⟩ := h.row i hi
    exact ⟨a, ha, hb, cell_kp hc kp (fun e => by omega)⟩
theorem JW.at_ {ab sb : Nat} {A : Option Addr} {len cap : Nat} {B : Nat → Bool} {k : Nat} {w2 : World} (h : JW ab sb A len cap B k w2) (hl : 0 < len) (v : Nat) :
    ∃ a, A = some a ∧ ((v : Int) + 1).tmod (len : Int) = (((v + 1) % len : Nat) : Int) ∧ (v + 1) % len < len ∧ w2.cell? (a.add ((v + 1) % len)) = some (.bool (B ((v + 1) % len))) := by
  have hm : (v + 1) % len < len := Nat.mod_lt _ hl
  obtain ⟨a, ha, _, hc⟩ := h.row _ hm
  refine ⟨a, ha, ?_, hm, hc⟩
  rw [Int.tmod_eq_emod_of_nonneg (by omega), show (v : Int) + 1 = ((v + 1 : Nat) : Int) by omega]
  exact (Int.natCast_emod _ _).symm

set_option maxHeartbeats 1000000 in
theorem ask_calls (ab sb : Nat) (A : Option Addr) (len cap : Nat) (B : Nat → Bool) (k : Nat) (a b : Int) (w : World) (h : JW ab sb A len cap B (k + 1) w) :
    Calls Try.prog 15 #[.int .i64 a, .int .i64 b, .pointer (some ⟨ab, 0, none⟩), .pointer (some ⟨sb, 0, none⟩)] w fun e w' => ∃ r, e = .returned (.bool r) ∧ True ∧ JW ab sb A len cap B k w' ∧ Kp w w' (fun i => i = ab) := by
  obtain ⟨v, hv, hk⟩ := h.ask
  have c0 : w.cell? ⟨ab, 0, none⟩ = some (.int .i64 v) := (blk_cell hv 0).trans rfl
  have f0 : w.frozen? ⟨ab, 0, none⟩ = false := blk_frozen hv 0
  obtain ⟨W, hW⟩ : ∃ W, w.setCell ⟨ab, 0, none⟩ (.int .i64 ((v : Int) + 1)) = W := ⟨_, rfl⟩
  obtain ⟨hJ, hK⟩ := h.step hv hk hW
  have c1 : W.cell? ⟨ab, 0, none⟩ = some (.int .i64 ((v : Int) + 1)) := by rw [← hW]; exact (blk_cell (blk_put hv 0 _ rfl) 0).trans rfl
  have c2 : W.cell? ⟨sb, 0, none⟩ = some (.slice A len cap) := (blk_cell hJ.says 0).trans rfl
  have hsm := h.small
  have HJ := Aside0.mk hJ
  have HK := Aside0.mk hK
  by_cases hl : 0 < len
  · obtain ⟨ad, rfl, hm, hml, hc⟩ := hJ.at_ hl v
    generalize (v + 1) % len = m at *
    generalize B m = bm at hc
    have t1 : decide ((len : Int) > 0) = true := by simp; omega
    have t2 : decide ((0 : Int) < (len : Int)) = true := by simp; omega
    have t3 : decide (0 < len) = true := by simpa using hl
    have hz : ((len : Int) == 0) = false := by simp; omega
    have hz2 : (len : Int) ≠ 0 := by omega
    clear h hJ hK hv hl
    go_enter Try.func15, Try.ntmps15
    go_wp2
    go_region
    all_goals go_wp2
    all_goals go_ret
    all_goals exact ⟨_, rfl, trivial, HJ.out.drew, HK.out.drew⟩
  · have t1 : decide ((len : Int) > 0) = false := by simp; omega
    have t2 : decide ((0 : Int) < (len : Int)) = false := by simp; omega
    have t3 : decide (0 < len) = false := by simpa using hl
    clear h hJ hK hv
    go_enter Try.func15, Try.ntmps15
    go_wp2
    go_region
    all_goals go_wp2
    all_goals go_ret
    all_goals exact ⟨_, rfl, trivial, HJ.out.drew, HK.out.drew⟩
theorem orderJ (ab sb : Nat) (A : Option Addr) (len cap : Nat) (B : Nat → Bool) (base : Nat) (h1 : ab < base) (h2 : sb < base) :
    LessJ Try.prog (Value.int .i64) (fun _ _ _ => True) (.func (.func 15) #[] #[.pointer (some ⟨ab, 0, none⟩), .pointer (some ⟨sb, 0, none⟩)]) (JW ab sb A len cap B) (fun k => k = ab) base :=
  ⟨⟨15, _, _, rfl, Try.func15, by kernel_rfl, rfl, fun a b w k h _ => (ask_calls ab sb A len cap B k a b w h).mono (by rintro e w' ⟨r, h⟩; exact ⟨r, h⟩)⟩, fun k w w' h he => h.kept h1 h2 he, fun k w h => h.less, fun k hk => by omega⟩

/-- 'has' over a list of the law's own. -/
theorem has_calls (g cap : Nat) (l : List Int) (x : Int) (w : World) (base : Nat) (hr : w.ownsRow base 3 1 (.slice (some ⟨g, 0, none⟩) l.length cap) l.length (l.map (Value.int .i64))) (hn : l.length ≤ 4611686018427387904) (hx : x ∈ l) :
    Calls Try.prog 17 #[.slice (some ⟨g, 0, none⟩) l.length cap, .int .i64 x] w fun e w' => e = .returned (.bool true) ∧ w = w' := by
  obtain ⟨j, hj, hjx⟩ := List.mem_iff_getElem.1 hx
  have HR : Aside0 (∀ i (h : i < l.length), w.cell? ⟨g, i, none⟩ = some (.int .i64 (l.getD i 0))) := ⟨fun i h => own_cell hr i _ (by rw [List.getElem?_map, List.getElem?_eq_getElem h]; simp [h])⟩
  have HJ : Aside0 (l.getD j 0 = x) := ⟨by simp [hj, hjx]⟩
  clear hr hx hjx
  go_enter Try.func17, Try.ntmps17
  go_wp2
  go_loopw [9] (fun iv wr => ∃ k : Nat, k ≤ j ∧ iv = .int .i64 k ∧ wr = w) (fun iv _ => l.length - (intOf iv).toNat)
  case atStart => exact ⟨0, by omega, rfl, rfl⟩
  case round =>
    obtain ⟨k, hk, rfl, rfl⟩ := hrel
    have hc := HR.out k (by omega)
    by_cases he : x = l.getD k 0
    · have te : (x == l.getD k 0) = true := by simpa using he
      generalize l.getD k 0 = y at *
      go_wp2
      go_ret
      exact ⟨rfl, rfl⟩
    · have te : (x == l.getD k 0) = false := by simpa using he
      have hkj : k ≠ j := fun e => he (by rw [e]; exact HJ.out.symm)
      generalize l.getD k 0 = y at *
      go_wp2
      go_roundw
      case rel => exact ⟨k + 1, by omega, by go_num, trivial⟩
      case measure => simp [intOf]; omega
end Go.Proofs.Ytiblnccbeefdkaa.Wr
