/- This text proves what the iterator over a table's places gives: each thing with its number, in order, for every body that keeps what lay before. -/
import Derived.Test.YtiocnkoogachkaaUa
import Derived.RangeFuncNested
import Derived.RangeFuncBound
import Derived.RangeFuncCalls
import Derived.RangeFuncLeaves
import Derived.RangeFuncBox
import Derived.Shelf.Abstract
import Derived.Shelf.RegionOpen
import Derived.OwnWalkIn
import Derived.TacticsInMore
import Derived.LoopNIn
import Derived.LoopIn
namespace Go.Proofs.Ytiocnkoogachkaa.Ui
open Go.RowKit Go.Shelf Go.Proofs.YtiocnkoogachkaaW.PrintWords Go.Proofs.Ytiocnkoogachkaa.Mp Go.Proofs.Ytiocnkoogachkaa.Hp Go.Proofs.Ytiocnkoogachkaa.Tg Go.Proofs.Ytiocnkoogachkaa.Rs Go.Proofs.Ytiocnkoogachkaa.PSlotsPlays
set_option linter.unusedVariables false
set_option linter.unusedSimpArgs false
attribute [local go_sem] Oper.semAt_some
theorem rl_app : ∀ (n : Nat) (s t : List (It Int Bool)), rl n (s ++ t) = rl n s ++ rl (n + s.length) t
  | n, [], t => by simp [rl]
  | n, p :: s, t => by
    rw [List.cons_append, rl, rl, rl_app (n + 1) s t, List.length_cons, show n + 1 + s.length = n + (s.length + 1) by omega]
    split <;> simp
theorem rl_take {Ps : List (It Int Bool)} {k : Nat} {p : It Int Bool} (hp : Ps[k]? = some p) : rl 0 (Ps.take (k + 1)) = rl 0 (Ps.take k) ++ (if p.rank then [⟨(k : Int) + 1, p.key⟩] else []) := by
  have hlt := (List.getElem?_eq_some_iff.1 hp).1
  rw [List.take_add_one, hp, rl_app]
  simp only [Option.toList_some, rl, List.length_take, Nat.zero_add, show min k Ps.length = k by omega]
theorem rl_pre (Ps : List (It Int Bool)) (k : Nat) : rl 0 (Ps.take k) <+: rl 0 Ps := by
  conv => rhs; rw [← List.take_append_drop k Ps]
  rw [rl_app]
  exact List.prefix_append _ _
abbrev encs (x : S47) : Array Value := #[.int .i64 x.f0, .int .i64 x.f1]
set_option maxRecDepth 100000 in
set_option maxHeartbeats 2000000 in
theorem iter_some (F : Fence) (n : Nat) (h7 : F.fn 43) (hro : F.round = none) (hn : 1 ≤ n) (l Bs g cap : Nat) (Sx : Nat → Prop) (Ps : List (It Int Bool)) (hl : Ps.length ≤ 65536) (hb : ¬ Sx g) (J Jx : List S47 → World → Prop)
    (W : World) (hJ : AbidesFrom W.heap.size J) (hJx : AbidesFrom W.heap.size Jx)
    (hY : ∀ pre x W, J pre W → pre.length < (rl 0 Ps).length → YieldAt F (n - 1) Try.prog l (encs x) W fun e W' =>
      (e = .returned (.bool true) ∧ J (pre ++ [x]) W' ∧ Kp W W' Sx) ∨ (e = .returned (.bool false) ∧ Jx (pre ++ [x]) W'))
    (hBs : W.cell? ⟨Bs, 0, none⟩ = some (.slice (some ⟨g, 0, none⟩) Ps.length cap))
    (hc : ∀ j p, Ps[j]? = some p → W.cell? ⟨g, j * 2, none⟩ = some (.int .i64 p.key) ∧ W.cell? ⟨g, j * 2 + 1, none⟩ = some (.bool p.rank)) (h0 : J [] W) :
    CallsIn F n Try.prog 43 #[.func (.yield l) #[] #[], .pointer (some ⟨Bs, 0, none⟩)] W fun e W' => (∃ v, e = .returned v) ∧
      ((∃ ys, ys = rl 0 Ps ∧ J ys W') ∨ (∃ pre, pre <+: rl 0 Ps ∧ Jx pre W')) := by
  refine callsIn_of_wp Try.func43 rfl h7 ?_ hro
  simp only [Try.ntmps43, List.size_toArray, List.length_cons, List.length_nil, Nat.reduceAdd, Nat.reduceSub, Array.replicate_succ, Array.replicate_zero, List.push_toArray, List.append_toArray, List.nil_append, List.cons_append]
  gi_wp2
  gi_loopw [7] (fun i wr => ∃ k : Nat, k ≤ Ps.length ∧ i = .int .i64 k ∧ J (rl 0 (Ps.take k)) wr ∧ Kp W wr Sx)
    (fun i _ => Ps.length - (intOf i).toNat)
  case atStart => exact ⟨0, Nat.zero_le _, rfl, h0, Kp.refl _ _⟩
  case round =>
    obtain ⟨k, hk, rfl, hJs, hnx⟩ := hrel
    by_cases hlt : k < Ps.length
    · obtain ⟨p, hp⟩ : ∃ p, Ps[k]? = some p := ⟨_, List.getElem?_eq_getElem hlt⟩
      obtain ⟨hc0, hc1⟩ := hc k p hp
      have d0 : wr.cell? ⟨g, k * 2, none⟩ = some (.int .i64 p.key) := cell_kp hc0 hnx hb
      have d1 : wr.cell? ⟨g, k * 2 + 1, none⟩ = some (.bool p.rank) := cell_kp hc1 hnx hb
      have ht := rl_take hp
      have hJ' : J (rl 0 (Ps.take k)) (wr.alloc (.cells #[.int .i64 p.key, .bool p.rank] 62)) := hJ _ _ _ none hJs (World.grownBy_alloc _ _ _) (fun r e => by cases e)
      have hnx' : Kp W (wr.alloc (.cells #[.int .i64 p.key, .bool p.rank] 62)) Sx := hnx.alloc _
      cases hr : p.rank with
      | false =>
        rw [hr] at d1 hJ' hnx'
        rw [hr] at ht
        simp only [Bool.false_eq_true, if_false, List.append_nil] at ht
        gi_wp2
        refine ⟨fun _ h => (by cases h), ?_⟩
        gi_wp2
        go_roundw
        case rel => exact ⟨k + 1, by omega, by simp, by rw [ht]; exact hJ', hnx'⟩
        case measure => simp [intOf]; omega
      | true =>
        rw [hr] at d1 hJ' hnx'
        rw [hr] at ht
        simp only [if_true] at ht
        have hlen : (rl 0 (Ps.take k)).length < (rl 0 Ps).length := by
          have h1 := (rl_pre Ps (k + 1)).length_le
          rw [ht, List.length_append] at h1
          simp at h1
          omega
        obtain ⟨fn, tmps, assign, body, hy, hR⟩ := hY _ ⟨(k : Int) + 1, p.key⟩ _ hJ' hlen
        dsimp only [encs] at hy
        gi_wp2
        refine hR.mono ?_
        rintro e W3 (⟨rfl, hJ3, hk3⟩ | ⟨rfl, hJx3⟩)
        · gi_wp2
          go_roundw
          case rel => exact ⟨k + 1, by omega, by simp, by rw [ht]; exact hJ3, hnx'.then_ hk3 (fun _ h => .inl h)⟩
          case measure => simp [intOf]; omega
        · gi_wp2
          refine bodyPost_ret (results_none rfl _ _ _) rfl ?_
          exact ⟨⟨_, rfl⟩, .inr ⟨_, by rw [← ht]; exact rl_pre Ps (k + 1), hJx3⟩⟩
    · obtain rfl : k = Ps.length := by omega
      gi_wp2
      go_end0
      exact ⟨⟨_, rfl⟩, .inl ⟨_, rfl, by rw [List.take_length] at hJs; exact hJs⟩⟩
set_option maxRecDepth 100000 in
set_option maxHeartbeats 1000000 in
theorem iter_nil (F : Fence) (n : Nat) (h7 : F.fn 43) (hro : F.round = none) (l Bs : Nat) (J : List S47 → World → Prop) (W : World) (hBs : W.cell? ⟨Bs, 0, none⟩ = some (.slice none 0 0)) (h0 : J [] W) :
    CallsIn F n Try.prog 43 #[.func (.yield l) #[] #[], .pointer (some ⟨Bs, 0, none⟩)] W fun e W' => (∃ v, e = .returned v) ∧ J [] W' := by
  refine callsIn_of_wp Try.func43 rfl h7 ?_ hro
  simp only [Try.ntmps43, List.size_toArray, List.length_cons, List.length_nil, Nat.reduceAdd, Nat.reduceSub, Array.replicate_succ, Array.replicate_zero, List.push_toArray, List.append_toArray, List.nil_append, List.cons_append]
  gi_wp2
  gi_loopw [7] (fun i wr => i = .int .i64 0 ∧ J [] wr) (fun _ _ => 0)
  case atStart => exact ⟨rfl, h0⟩
  case round =>
    obtain ⟨rfl, hJs⟩ := hrel
    gi_wp2
    go_end0
    exact ⟨⟨_, rfl⟩, hJs⟩
/-- The iterator gives the things by their numbers. -/
theorem iter_stops (F : Fence) (n : Nat) (h7 : F.fn 43) (hro : F.round = none) (hn : 1 ≤ n) (Bs base : Nat) (Sx : Nat → Prop) (cv : Value) (Ps : List (It Int Bool)) (hl : Ps.length ≤ 65536) (w : World)
    (hB : w.heap[Bs]? = some (.cells #[cv] 56 (0, 0))) (ho : w.ownsRow base 62 2 cv Ps.length (flat Ti.PF Ps)) (hg : ∀ k, cv.ownBlock = some k → ¬ Sx k) :
    SeqStopsK F n Try.prog 43 #[.pointer (some ⟨Bs, 0, none⟩)] encs (fun W W' => Kp W W' Sx) (fun ys => ys = rl 0 Ps) (fun pre => pre <+: rl 0 Ps) (rl 0 Ps).length w := fun l J Jx W hW hJ hJx hY h0 => by
  have hBs : Bs < w.heap.size := blk_lt hB
  have hc' : W.cell? ⟨Bs, 0, none⟩ = some cv := (hW.cell hBs).trans ((blk_cell hB 0).trans rfl)
  rcases ho.2 with ⟨hv, he⟩ | ⟨g, cap, cur, hv, _⟩
  · have hP : Ps = [] := List.eq_nil_of_length_eq_zero he
    subst hv hP
    exact (iter_nil F n h7 hro l Bs J W hc' h0).mono fun e W' ⟨he, hj⟩ => ⟨he, .inl ⟨_, rfl, hj⟩⟩
  · subst hv
    have hgn : g < w.heap.size := own_lt ho g rfl
    refine iter_some F n h7 hro hn l Bs g cap Sx Ps hl (hg g rfl) J Jx W hJ hJx hY hc' (fun j p hp => ⟨?_, ?_⟩) h0
    · exact (hW.cell (p := ⟨g, j * 2, none⟩) hgn).trans (own_cell ho _ _ ((flat_get Ti.PF Ps j 0 p hp (by decide)).trans rfl))
    · exact (hW.cell (p := ⟨g, j * 2 + 1, none⟩) hgn).trans (own_cell ho _ _ ((flat_get Ti.PF Ps j 1 p hp (by decide)).trans rfl))
end Go.Proofs.Ytiocnkoogachkaa.Ui
