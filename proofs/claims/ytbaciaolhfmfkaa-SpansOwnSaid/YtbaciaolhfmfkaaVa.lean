/- This text proves what a set's iterator is asked for and what it gives: each run that there was, in order. -/
import Derived.Test.YtbaciaolhfmfkaaSzu8
import Derived.RangeFuncNested
import Derived.RangeFuncBound
import Derived.RangeFuncCalls
import Derived.RangeFuncLeaves
import Derived.RangeFuncBox
import Derived.Shelf.Abstract
import Derived.Shelf.RegionOpen
import Derived.OwnWalkIn
import Derived.TacticsInMore
import Derived.LoopNIn
import Derived.LoopIn
namespace Go.Proofs.Ytbaciaolhfmfkaa.Va
open Go.RowKit Go.Shelf Go.Proofs.YtbaciaolhfmfkaaW.PrintWords Go.Proofs.Ytbaciaolhfmfkaa.Mp Go.Proofs.Ytbaciaolhfmfkaa.Ow Go.Proofs.Ytbaciaolhfmfkaa.Sp Go.Proofs.Ytbaciaolhfmfkaa.Su8
set_option linter.unusedVariables false
set_option linter.unusedSimpArgs false
attribute [local go_sem] Oper.semAt_some
set_option maxRecDepth 100000 in
theorem values_calls (a : Option Addr) (n c : Nat) (w : World) : Calls Try.prog 36 #[.slice a n c] w fun e w' => e = .returned (.func (.func 68) #[] #[.pointer (some ⟨w.heap.size, 0, none⟩)]) ∧ w'.heap[w.heap.size]? = some (.cells #[.slice a n c] 26 (0, 0)) ∧ Kp w w' (fun _ => False) := by
  go_enter Try.func36, Try.ntmps36
  go_wp2
  go_ret
  exact ⟨rfl, heap_alloc_new _ _, (Kp.refl _ _).alloc _⟩
set_option maxRecDepth 100000 in
theorem all_calls {w : World} {base p : Nat} {sv : Value} {R : List Run} (h : SetAt w base p sv R) (hl : R.length ≤ 4398046511104) :
    Calls Try.prog 17 #[.pointer (some ⟨p, 0, none⟩)] w fun e w' => ∃ Bs cv, e = .returned (.func (.func 68) #[] #[.pointer (some ⟨Bs, 0, none⟩)]) ∧ w'.heap[Bs]? = some (.cells #[cv] 26 (0, 0)) ∧ w.heap.size ≤ Bs ∧ w'.ownsRow w.heap.size 29 2 cv R.length (flat R) ∧ Kp w w' (fun _ => False) := by
  have H0 := Aside0.mk (runs_calls h hl)
  clear h hl
  go_enter Try.func17, Try.ntmps17
  go_wp2_with fail
  refine H0.out.mono ?_
  rintro e w1 ⟨v, rfl, ho, k1⟩
  obtain ⟨a, c, hv, _⟩ := Su8.own_slice ho
  subst hv
  have HO := Aside0.mk ho
  have K1 := Aside0.mk k1
  clear ho k1 H0
  go_wp2_with fail
  refine (values_calls _ _ _ w1).mono ?_
  rintro e w2 ⟨rfl, h2, k2⟩
  have H2 := Aside0.mk h2
  have K2 := Aside0.mk k2
  clear h2 k2
  go_wp2
  go_ret
  exact ⟨_, _, rfl, H2.out, K1.out.size, row_kp HO.out K2.out (fun _ _ h => h), K1.out.then_ K2.out (fun _ h => .inl h)⟩
abbrev encs (x : Run) : Array Value := #[.agg #[.int .u8 x.1, .int .u8 x.2]]
theorem take_next {R : List Run} {k : Nat} {p : Run} (hp : R[k]? = some p) : R.take (k + 1) = R.take k ++ [p] := by rw [List.take_add_one, hp]; rfl
set_option maxRecDepth 100000 in
set_option maxHeartbeats 2000000 in
theorem iter_some (F : Fence) (n : Nat) (h7 : F.fn 68) (hro : F.round = none) (hn : 1 ≤ n) (l Bs g cap : Nat) (Sx : Nat → Prop) (R : List Run) (hl : R.length ≤ 65536) (hb : ¬ Sx g) (J Jx : List Run → World → Prop)
    (W : World) (hJ : AbidesFrom W.heap.size J) (hJx : AbidesFrom W.heap.size Jx)
    (hY : ∀ pre x W, J pre W → pre.length < R.length → YieldAt F (n - 1) Try.prog l (encs x) W fun e W' =>
      (e = .returned (.bool true) ∧ J (pre ++ [x]) W' ∧ Kp W W' Sx) ∨ (e = .returned (.bool false) ∧ Jx (pre ++ [x]) W'))
    (hBs : W.cell? ⟨Bs, 0, none⟩ = some (.slice (some ⟨g, 0, none⟩) R.length cap))
    (hc : ∀ j p, R[j]? = some p → W.cell? ⟨g, j * 2, none⟩ = some (.int .u8 p.1) ∧ W.cell? ⟨g, j * 2 + 1, none⟩ = some (.int .u8 p.2)) (h0 : J [] W) :
    CallsIn F n Try.prog 68 #[.func (.yield l) #[] #[], .pointer (some ⟨Bs, 0, none⟩)] W fun e W' => (∃ v, e = .returned v) ∧
      ((∃ ys, ys = R ∧ J ys W') ∨ (∃ pre, pre <+: R ∧ Jx pre W')) := by
  refine callsIn_of_wp Try.func68 rfl h7 ?_ hro
  simp only [Try.ntmps68, List.size_toArray, List.length_cons, List.length_nil, Nat.reduceAdd, Nat.reduceSub, Array.replicate_succ, Array.replicate_zero, List.push_toArray, List.append_toArray, List.nil_append, List.cons_append]
  gi_wp2
  gi_loopw [7] (fun i wr => ∃ k : Nat, k ≤ R.length ∧ i = .int .i64 k ∧ J (R.take k) wr ∧ Kp W wr Sx)
    (fun i _ => R.length - (intOf i).toNat)
  case atStart => exact ⟨0, Nat.zero_le _, rfl, h0, Kp.refl _ _⟩
  case round =>
    obtain ⟨k, hk, rfl, hJs, hnx⟩ := hrel
    by_cases hlt : k < R.length
    · obtain ⟨p, hp⟩ : ∃ p, R[k]? = some p := ⟨_, List.getElem?_eq_getElem hlt⟩
      obtain ⟨hc0, hc1⟩ := hc k p hp
      have d0 : wr.cell? ⟨g, k * 2, none⟩ = some (.int .u8 p.1) := cell_kp hc0 hnx hb
      have d1 : wr.cell? ⟨g, k * 2 + 1, none⟩ = some (.int .u8 p.2) := cell_kp hc1 hnx hb
      have ht := take_next hp
      have hJ' : J (R.take k) (wr.alloc (.cells #[.int .u8 p.1, .int .u8 p.2] 29)) := hJ _ _ _ none hJs (World.grownBy_alloc _ _ _) (fun r e => by cases e)
      have hnx' : Kp W (wr.alloc (.cells #[.int .u8 p.1, .int .u8 p.2] 29)) Sx := hnx.alloc _
      have hlen : (R.take k).length < R.length := by rw [List.length_take]; omega
      obtain ⟨fn, tmps, assign, body, hy, hR⟩ := hY _ p _ hJ' hlen
      dsimp only [encs] at hy
      gi_wp2
      refine hR.mono ?_
      rintro e W3 (⟨rfl, hJ3, hk3⟩ | ⟨rfl, hJx3⟩)
      · gi_wp2
        go_roundw
        case rel => exact ⟨k + 1, by omega, by simp, by rw [ht]; exact hJ3, hnx'.then_ hk3 (fun _ h => .inl h)⟩
        case measure => simp [intOf]; omega
      · gi_wp2
        refine bodyPost_ret (results_none rfl _ _ _) rfl ?_
        exact ⟨⟨_, rfl⟩, .inr ⟨_, by rw [← ht]; exact List.take_prefix _ _, hJx3⟩⟩
    · obtain rfl : k = R.length := by omega
      gi_wp2
      go_end0
      exact ⟨⟨_, rfl⟩, .inl ⟨_, rfl, by rw [List.take_length] at hJs; exact hJs⟩⟩
set_option maxRecDepth 100000 in
set_option maxHeartbeats 1000000 in
theorem iter_nil (F : Fence) (n : Nat) (h7 : F.fn 68) (hro : F.round = none) (l Bs : Nat) (J : List Run → World → Prop) (W : World) (hBs : W.cell? ⟨Bs, 0, none⟩ = some (.slice none 0 0)) (h0 : J [] W) :
    CallsIn F n Try.prog 68 #[.func (.yield l) #[] #[], .pointer (some ⟨Bs, 0, none⟩)] W fun e W' => (∃ v, e = .returned v) ∧ J [] W' := by
  refine callsIn_of_wp Try.func68 rfl h7 ?_ hro
  simp only [Try.ntmps68, List.size_toArray, List.length_cons, List.length_nil, Nat.reduceAdd, Nat.reduceSub, Array.replicate_succ, Array.replicate_zero, List.push_toArray, List.append_toArray, List.nil_append, List.cons_append]
  gi_wp2
  gi_loopw [7] (fun i wr => i = .int .i64 0 ∧ J [] wr) (fun _ _ => 0)
  case atStart => exact ⟨rfl, h0⟩
  case round =>
    obtain ⟨rfl, hJs⟩ := hrel
    gi_wp2
    go_end0
    exact ⟨⟨_, rfl⟩, hJs⟩
/-- The iterator gives the runs in order. -/
theorem iter_stops (F : Fence) (n : Nat) (h7 : F.fn 68) (hro : F.round = none) (hn : 1 ≤ n) (Bs base : Nat) (Sx : Nat → Prop) (cv : Value) (R : List Run) (hl : R.length ≤ 65536) (w : World)
    (hB : w.heap[Bs]? = some (.cells #[cv] 26 (0, 0))) (ho : w.ownsRow base 29 2 cv R.length (flat R)) (hg : ∀ k, cv.ownBlock = some k → ¬ Sx k) :
    SeqStopsK F n Try.prog 68 #[.pointer (some ⟨Bs, 0, none⟩)] encs (fun W W' => Kp W W' Sx) (fun ys => ys = R) (fun pre => pre <+: R) R.length w := fun l J Jx W hW hJ hJx hY h0 => by
  have hBs : Bs < w.heap.size := blk_lt hB
  have hc' : W.cell? ⟨Bs, 0, none⟩ = some cv := (hW.cell hBs).trans ((blk_cell hB 0).trans rfl)
  rcases ho.2 with ⟨hv, he⟩ | ⟨g, cap, cur, hv, _⟩
  · have hP : R = [] := List.eq_nil_of_length_eq_zero he
    subst hv hP
    exact (iter_nil F n h7 hro l Bs J W hc' h0).mono fun e W' ⟨he, hj⟩ => ⟨he, .inl ⟨_, rfl, hj⟩⟩
  · subst hv
    have hgn : g < w.heap.size := (row_blk ho rfl).2
    refine iter_some F n h7 hro hn l Bs g cap Sx R hl (hg g rfl) J Jx W hJ hJx hY hc' (fun j p hp => ⟨?_, ?_⟩) h0
    · exact (hW.cell (p := ⟨g, j * 2, none⟩) hgn).trans (own_cell ho _ _ (flat_at R j p hp).1)
    · exact (hW.cell (p := ⟨g, j * 2 + 1, none⟩) hgn).trans (own_cell ho _ _ (flat_at R j p hp).2)
end Go.Proofs.Ytbaciaolhfmfkaa.Va
