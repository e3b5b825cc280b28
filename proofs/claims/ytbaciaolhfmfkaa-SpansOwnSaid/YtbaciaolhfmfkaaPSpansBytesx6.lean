-- PRINTED BY print.sh 35421559b90ae4d0a3588c463048766b98c2df88dd9212a6774a882060cdf62d: not written by this session
import Derived.Test.YtbaciaolhfmfkaaPSpansBytesx0
import Derived.Test.YtbaciaolhfmfkaaPSpansBytesx3
import Derived.Test.YtbaciaolhfmfkaaPSpansBytesx5
namespace Go.Proofs.Ytbaciaolhfmfkaa.PSpansBytes
open Go.RowKit Go.Proofs.YtbaciaolhfmfkaaW.PrintWords Go.Proofs.YtbaciaolhfmfkaaW.PrintLast Go.Proofs.YtbaciaolhfmfkaaW.PrintMore
attribute [local go_sem] max2_int min2_int max_two min_two max_three min_three max_four min_four   -- for this text's walks alone
set_option linter.unusedVariables false
set_option linter.unusedSimpArgs false

/-! ### brambleref02_Done: function 39 -/
def brambleref02_Done.f (l0_0 : List (S98)) (a0_1 : Int) (a1 : Bool) (a2 : Int) (a3 : Int) : Option ((List (S98)) × Int) := (some (([] : List (S98)) : List (S98))).bind fun y195 => (if y195.length + l0_0.length < 5864062014805 then ((some (y195 ++ l0_0 : List (S98))).bind fun y198 => (if y198.length < 5864062014805 then (some ((y198 ++ [(⟨a1, a2, a3⟩ : S98)]), a0_1)) else (none))) else (none))
set_option maxHeartbeats 8000000 in
set_option maxRecDepth 100000 in
theorem brambleref02_Done.calls (A0_0 : Option Addr) (c0_0 : Nat) (l0_0 : List (S98)) (a0_1 : Int) (a1 : Bool) (a2 : Int) (a3 : Int) (r1 : List (S98)) (r2 : Int) (w : World) (hr0_0 : Kd.C k98 w A0_0 l0_0.length l0_0) (hc0_0 : l0_0.length ≤ c0_0) (h : brambleref02_Done.f l0_0 a0_1 a1 a2 a3 = some (r1, r2)) :
    Calls Try.prog 39 #[.agg #[.slice A0_0 l0_0.length c0_0, .int .i64 a0_1], .bool a1, .int .i64 a2, .int .i64 a3] w fun e w' => ∃ v0_ : Value, e = .returned (.agg #[v0_, .int .i64 r2]) ∧ Kd.R k98 98 w' w.heap.size (fun _ => True) v0_ r1 ∧ Below w.heap.size w w' := by
  have hu68 := Try.underlying68
  have hu98 := Try.underlying98
  have HR0_0 := Aside0.mk hr0_0
  have HC0_0 := Aside0.mk hc0_0
  clear hr0_0 hc0_0
  have HB := Aside0.mk (Below.refl w.heap.size w)
  have H : ((some (([] : List (S98)) : List (S98))).bind fun y195 => (if y195.length + l0_0.length < 5864062014805 then ((some (y195 ++ l0_0 : List (S98))).bind fun y198 => (if y198.length < 5864062014805 then (some ((y198 ++ [(⟨a1, a2, a3⟩ : S98)]), a0_1)) else (none))) else (none))) = some (r1, r2) := h
  clear h
  obtain ⟨y195, hy195⟩ : ∃ y_ : List (S98), y_ = (([] : List (S98))) := ⟨_, rfl⟩
  replace H : (if y195.length + l0_0.length < 5864062014805 then ((some (y195 ++ l0_0 : List (S98))).bind fun y198 => (if y198.length < 5864062014805 then (some ((y198 ++ [(⟨a1, a2, a3⟩ : S98)]), a0_1)) else (none))) else (none)) = some (r1, r2) := by first | (rw [hy195]; with_reducible exact H) | (have H2_ := (Option.bind_some _ _).symm.trans H; rw [hy195]; with_reducible exact H2_) | (have H2_ := (Option.bind_some _ _).symm.trans H; with_reducible exact H2_) | with_reducible exact H | (rw [hy195]; exact H) | exact H
  have Ny195 := Aside0.mk hy195
  clear hy195
  by_cases c5 : y195.length + l0_0.length < 5864062014805
  · rw [if_pos c5] at H
    have LMc5 := Aside0.mk c5
    clear c5
    obtain ⟨y198, hy198⟩ : ∃ y_ : List (S98), y_ = (y195 ++ l0_0) := ⟨_, rfl⟩
    replace H : (if y198.length < 5864062014805 then (some ((y198 ++ [(⟨a1, a2, a3⟩ : S98)]), a0_1)) else (none)) = some (r1, r2) := by first | (rw [hy198]; with_reducible exact H) | (have H2_ := (Option.bind_some _ _).symm.trans H; rw [hy198]; with_reducible exact H2_) | (have H2_ := (Option.bind_some _ _).symm.trans H; with_reducible exact H2_) | with_reducible exact H | (rw [hy198]; exact H) | exact H
    have Ny198 := Aside0.mk hy198
    clear hy198
    by_cases c6 : y198.length < 5864062014805
    · rw [if_pos c6] at H
      have LMc6 := Aside0.mk c6
      clear c6
      obtain ⟨y201, hy201⟩ : ∃ y_ : List (S98), y_ = (y198 ++ [(⟨a1, a2, a3⟩ : S98)]) := ⟨_, rfl⟩
      replace H : (some (y201, a0_1)) = some (r1, r2) := by first | (rw [hy201]; with_reducible exact H) | (have H2_ := (Option.bind_some _ _).symm.trans H; rw [hy201]; with_reducible exact H2_) | (have H2_ := (Option.bind_some _ _).symm.trans H; with_reducible exact H2_) | with_reducible exact H | (rw [hy201]; exact H) | exact H
      have Ny201 := Aside0.mk hy201
      clear hy201
      simp only [Option.some.injEq, Prod.mk.injEq] at H
      obtain ⟨rfl, rfl⟩ := H
      go_enter Try.func39, Try.ntmps39
      go_wp2_with (first | ((with_reducible refine gate_dst (N := 4) rfl ?_); refine box_event ?hg (N := 4) ?hd (cs := #[.slice A0_0 l0_0.length c0_0, .int .i64 a0_1]) (t := 68) ?hr ?_; (case hd => rfl); (case hg => rfl); (case hr => first | (go_simp; done) | (go_simp; rfl)); intro gb193 hg w7 hbox hb; have n0_ := Aside0.mk (below_step (by repeat (first | (with_reducible first | exact HB.out | apply below_alloc | apply pw_below_drewN | apply below_drew1) | exact HB.out)) hb); have n1_ := Aside0.mk (hbox); have n2_ := Aside0.mk ((by rw [hg]; exact (below_size (by repeat (first | (with_reducible first | exact HB.out | apply below_alloc | apply pw_below_drewN | apply below_drew1) | exact HB.out))) : w.heap.size ≤ gb193)); have n3_ := Aside0.mk ((by rw [hg]; exact (below_size (by repeat (first | (with_reducible first | exact HB.out | apply below_alloc | apply pw_below_drewN | apply below_drew1) | exact HB.out))) : w.heap.size ≤ gb193)); clear HB; have HB := n0_; have BK193 := n1_; have GW193 := n2_; have GE193 := n3_; clear n0_ n1_ n2_ n3_; clear hb hbox hg) | ((with_reducible refine gate_dst (N := 8) rfl ?_); refine box_event ?hg (N := 8) ?hd (cs := #[.slice none 0 0, .int .i64 0]) (t := 68) ?hr ?_; (case hd => rfl); (case hg => rfl); (case hr => first | (go_simp; done) | (go_simp; rfl)); intro gb194 hg w8 hbox hb; have n0_ := Aside0.mk (blk_below (g := gb193) (o := .cells #[.slice A0_0 l0_0.length c0_0, .int .i64 a0_1] 68 (0, 0)) (by (with_reducible repeat (first | refine blk_drewN ?_ _ | refine blk_drew ?_ | refine blk_alloc ?_ _)); exact BK193.out) hb); have n1_ := Aside0.mk (below_step (by repeat (first | (with_reducible first | exact HB.out | apply below_alloc | apply pw_below_drewN | apply below_drew1 | refine below_set ?_ GE193.out) | exact HB.out)) hb); have n2_ := Aside0.mk (hbox); have n3_ := Aside0.mk ((by rw [hg]; exact (below_size (by repeat (first | (with_reducible first | exact HB.out | apply below_alloc | apply pw_below_drewN | apply below_drew1 | refine below_set ?_ GE193.out) | exact HB.out))) : w.heap.size ≤ gb194)); have n4_ := Aside0.mk ((by rw [hg]; exact (below_size (by repeat (first | (with_reducible first | exact HB.out | apply below_alloc | apply pw_below_drewN | apply below_drew1 | refine below_set ?_ GE193.out) | exact HB.out))) : w.heap.size ≤ gb194)); have n5_ := Aside0.mk ((by rw [hg]; exact Nat.ne_of_lt (blk_lt (g := gb193) (o := .cells #[.slice A0_0 l0_0.length c0_0, .int .i64 a0_1] 68 (0, 0)) (by (with_reducible repeat (first | refine blk_drewN ?_ _ | refine blk_drew ?_ | refine blk_alloc ?_ _)); exact BK193.out)) : gb193 ≠ gb194)); have n6_ := Aside0.mk ((by rw [hg]; exact Nat.ne_of_gt (blk_lt (g := gb193) (o := .cells #[.slice A0_0 l0_0.length c0_0, .int .i64 a0_1] 68 (0, 0)) (by (with_reducible repeat (first | refine blk_drewN ?_ _ | refine blk_drew ?_ | refine blk_alloc ?_ _)); exact BK193.out)) : gb194 ≠ gb193)); clear BK193; clear HB; have BK193 := n0_; have HB := n1_; have BK194 := n2_; have GW194 := n3_; have GE194 := n4_; have NB193_194 := n5_; have NB194_193 := n6_; clear n0_ n1_ n2_ n3_ n4_ n5_ n6_; clear hb hbox hg) | ((with_reducible refine gate_dst (N := 9) rfl ?_); refine Kd.R_lit k98 _ 98 ?hg (N := 9) ?hd (xs := ([] : List (S98))) (inner := []) (ok := fun _ => True) (okp := fun _ => True) ?hr ?hp (fun _ hk => hk) trivial (Below.refl _ _) (Nat.le_refl _) (by simp) ?_; (case hd => rfl); (case hg => rfl); (case hr => first | (go_simp; done) | (go_simp; rfl)); (case hp => exact (Reps.none _ _)); intro v196 w9 ho10 hb hg_ hnew_; clear hg_ hnew_; (first | rw [← Ny195.out] at ho10 | (simp only [Int.reduceToNat] at ho10; rw [← Ny195.out] at ho10)); have n0_ := Aside0.mk (Kd.R_lower ho10 (below_size (by repeat (first | (with_reducible first | exact HB.out | apply below_alloc | apply pw_below_drewN | apply below_drew1 | refine below_set ?_ GE193.out | refine below_set ?_ GE194.out) | exact HB.out)))); have n1_ := Aside0.mk (blk_below (g := gb193) (o := .cells #[.slice A0_0 l0_0.length c0_0, .int .i64 a0_1] 68 (0, 0)) (by (with_reducible repeat (first | refine blk_drewN ?_ _ | refine blk_drew ?_ | refine blk_alloc ?_ _)); exact BK193.out) hb); have n2_ := Aside0.mk (blk_below (g := gb194) (o := .cells #[.slice none 0 0, .int .i64 0] 68 (0, 0)) (by (with_reducible repeat (first | refine blk_drewN ?_ _ | refine blk_drew ?_ | refine blk_alloc ?_ _)); exact BK194.out) hb); have n3_ := Aside0.mk (below_step (by repeat (first | (with_reducible first | exact HB.out | apply below_alloc | apply pw_below_drewN | apply below_drew1 | refine below_set ?_ GE193.out | refine below_set ?_ GE194.out) | exact HB.out)) hb); clear BK193; clear BK194; clear HB; have HO197 := n0_; have BK193 := n1_; have BK194 := n2_; have HB := n3_; clear n0_ n1_ n2_ n3_; clear hb ho10; have hnb11 := NB193_194.out; have hnc11 := NB194_193.out; have hcz12_0 : w9.cell? ⟨gb193, 0, none⟩ = some (.slice A0_0 l0_0.length c0_0) := (blk_cell BK193.out 0).trans rfl; have hcz12_1 : w9.cell? ⟨gb193, 1, none⟩ = some (.int .i64 a0_1) := (blk_cell BK193.out 1).trans rfl; have hfz12_0 := blk_frozen BK193.out 0; have hfz12_1 := blk_frozen BK193.out 1) | ((with_reducible refine gate_builtin (b := .append) (xs := #[.tmp 9, .tmp 11]) rfl ?_); at_builtin; refine Kd.R_append_rows k98 (w0 := w) w.heap.size rfl (.tmp 9) (.tmp 11) 66 98 (.agg #[(.bool false), (.int .i64 0), (.int .i64 0)]) 24 rfl Try.underlying66 info98 rfl (by decide) (by omega) v196 y195 l0_0 _ _ _ (fun _ => True) (fun _ => False) rfl rfl ?aO ?aR (fun _ _ h => h) (fun _ h => h.elim) ?aF ?aB ?aS ?aL ?_; (case aR => repeat (first | exact (Kd.C_below HR0_0.out HB.out) | (with_reducible refine Kd.C_alloc ?_ _) | (with_reducible refine Kd.C_drewN ?_ _) | (with_reducible refine Kd.C_drew ?_))); (case aB => exact (by repeat (first | (with_reducible first | exact HB.out | apply below_alloc | apply pw_below_drewN | apply below_drew1 | refine below_set ?_ GE193.out | refine below_set ?_ GE194.out) | exact HB.out))); (case aF => exact (fun _ _ => trivial)); (case aO => exact (by (with_reducible repeat (first | apply Kd.R_alloc | apply Kd.R_drewN | apply Kd.R_drew)); exact HO197.out)); (case aS => exact (below_size (by repeat (first | (with_reducible first | exact HB.out | apply below_alloc | apply pw_below_drewN | apply below_drew1 | refine below_set ?_ GE193.out | refine below_set ?_ GE194.out) | exact HB.out)))); (case aL => have := LMc5.out; omega); intro v199 w13 ho hb hg hat; rw [← Ny198.out] at ho; have n0_ := Aside0.mk (blk_grown (g := gb193) (o := .cells #[.slice A0_0 l0_0.length c0_0, .int .i64 a0_1] 68 (0, 0)) (by (with_reducible repeat (first | refine blk_drewN ?_ _ | refine blk_drew ?_ | refine blk_alloc ?_ _)); exact BK193.out) hg (Kd.R_ne HO197.out BK193.out (by decide))); have n1_ := Aside0.mk (blk_grown (g := gb194) (o := .cells #[.slice none 0 0, .int .i64 0] 68 (0, 0)) (by (with_reducible repeat (first | refine blk_drewN ?_ _ | refine blk_drew ?_ | refine blk_alloc ?_ _)); exact BK194.out) hg (Kd.R_ne HO197.out BK194.out (by decide))); have n2_ := Aside0.mk (hb); have n3_ := Aside0.mk (ho); clear BK193; clear BK194; clear HB; clear HO197; have BK193 := n0_; have BK194 := n1_; have HB := n2_; have HO200 := n3_; clear n0_ n1_ n2_ n3_; clear ho hb hg hat) | ((with_reducible refine gate_builtin (b := .append) (xs := #[.tmp 12, .tmp 17]) rfl ?_); at_builtin; refine Kd.R_append k98 (w0 := w) w.heap.size rfl (.tmp 12) (.tmp 17) 66 98 (.agg #[(.bool false), (.int .i64 0), (.int .i64 0)]) 24 rfl Try.underlying66 info98 rfl (by decide) (by omega) v199 y198 (⟨a1, a2, a3⟩ : S98) [.bool a1, .int .i64 a2, .int .i64 a3] (fun _ => True) (fun _ => False) rfl rfl ?aP (fun _ hk => hk.elim) ?aF ?aO ?aB ?aS ?aL ?_; (case aP => exact k98_mkM _ _ _ (⟨a1, a2, a3⟩ : S98)); (case aB => exact (by repeat (first | (with_reducible first | exact HB.out | apply below_alloc | apply pw_below_drewN | apply below_drew1 | refine below_set ?_ GE193.out | refine below_set ?_ GE194.out) | exact HB.out))); (case aF => exact (fun _ _ => trivial)); (case aO => exact (by (with_reducible repeat (first | apply Kd.R_alloc | apply Kd.R_drewN | apply Kd.R_drew)); exact HO200.out)); (case aS => exact (below_size (by repeat (first | (with_reducible first | exact HB.out | apply below_alloc | apply pw_below_drewN | apply below_drew1 | refine below_set ?_ GE193.out | refine below_set ?_ GE194.out) | exact HB.out)))); (case aL => have := LMc6.out; omega); intro v202 w14 ho hb hg hat; rw [← Ny201.out] at ho; have n0_ := Aside0.mk (blk_grown (g := gb193) (o := .cells #[.slice A0_0 l0_0.length c0_0, .int .i64 a0_1] 68 (0, 0)) (by (with_reducible repeat (first | refine blk_drewN ?_ _ | refine blk_drew ?_ | refine blk_alloc ?_ _)); exact BK193.out) hg (Kd.R_ne HO200.out BK193.out (by decide))); have n1_ := Aside0.mk (blk_grown (g := gb194) (o := .cells #[.slice none 0 0, .int .i64 0] 68 (0, 0)) (by (with_reducible repeat (first | refine blk_drewN ?_ _ | refine blk_drew ?_ | refine blk_alloc ?_ _)); exact BK194.out) hg (Kd.R_ne HO200.out BK194.out (by decide))); have n2_ := Aside0.mk (hb); have n3_ := Aside0.mk (ho); clear BK193; clear BK194; clear HB; clear HO200; have BK193 := n0_; have BK194 := n1_; have HB := n2_; have HO203 := n3_; clear n0_ n1_ n2_ n3_; clear ho hb hg hat; obtain ⟨Ao15, co15, eo15⟩ := Kd.R_slice HO203.out; subst eo15; have hcz16_0 : w14.cell? ⟨gb193, 0, none⟩ = some (.slice A0_0 l0_0.length c0_0) := (blk_cell BK193.out 0).trans rfl; have hcz16_1 : w14.cell? ⟨gb193, 1, none⟩ = some (.int .i64 a0_1) := (blk_cell BK193.out 1).trans rfl; have hfz16_0 := blk_frozen BK193.out 0; have hfz16_1 := blk_frozen BK193.out 1; have hcz17_0 : w14.cell? ⟨gb194, 0, none⟩ = some (.slice none 0 0) := (blk_cell BK194.out 0).trans rfl; have hcz17_1 : w14.cell? ⟨gb194, 1, none⟩ = some (.int .i64 0) := (blk_cell BK194.out 1).trans rfl; have hfz17_0 := blk_frozen BK194.out 0; have hfz17_1 := blk_frozen BK194.out 1))
      refine bodyPost_ret (results_cell_row rfl _ _ gb194 68 #[.slice Ao15 y201.length co15, .int .i64 a0_1] (0, 0) _ rfl (by (with_reducible repeat (first | refine blk_drewN ?_ _ | refine blk_drew ?_ | refine blk_alloc ?_ _)); refine blk_put (cs := #[.slice Ao15 y201.length co15, .int .i64 0]) ?_ 1 _ rfl; (with_reducible repeat (first | refine blk_drewN ?_ _ | refine blk_drew ?_ | refine blk_alloc ?_ _)); refine blk_put (cs := #[.slice none 0 0, .int .i64 0]) ?_ 0 _ rfl; (with_reducible repeat (first | refine blk_drewN ?_ _ | refine blk_drew ?_ | refine blk_alloc ?_ _)); refine blk_far ?_ NB194_193.out _; (with_reducible repeat (first | refine blk_drewN ?_ _ | refine blk_drew ?_ | refine blk_alloc ?_ _)); exact BK194.out) Try.underlying68 rfl (by kernel_rfl)) rfl ?_
      exact ⟨_, by first | rfl | (simp [errW_none, errW_some] <;> rfl) | (simp [*, errW_none, errW_some] <;> rfl), by (with_reducible repeat (first | apply Kd.R_alloc | apply Kd.R_drewN | apply Kd.R_drew)); exact Kd.R_mono (Kd.R_far (p := ⟨gb194, 1, none⟩) (Kd.R_far (p := ⟨gb194, 0, none⟩) (Kd.R_far (p := ⟨gb193, 0, none⟩) (Kd.R_types (Kd.R_types HO203.out BK193.out (by decide)) BK194.out (by decide)) (fun _ hk => hk.1.2) (.slice Ao15 y201.length co15)) (fun _ hk => hk.2) (.slice Ao15 y201.length co15)) (fun _ hk => hk.2) (.int .i64 a0_1)) (fun _ hk => trivial), by repeat (first | (with_reducible first | exact HB.out | apply below_alloc | apply pw_below_drewN | apply below_drew1 | refine below_set ?_ GE193.out | refine below_set ?_ GE194.out) | exact HB.out)⟩
    · rw [if_neg c6] at H
      exact absurd H (by simp)
  · rw [if_neg c5] at H
    exact absurd H (by simp)

/-! ### brambleref02_Holds: function 43 -/
def brambleref02_Holds.l0 : Nat → Int → Int → List (S42) → Int → Option (Bool)
  | 0, _, _, _, _ => none
  | k + 1, x1, x2, x7, x8 => if x8 < (x7.length : Int) then (if 0 ≤ x8 then (if ((rd_T42 x7 x8).f0) ≤ x1 then (if x2 ≤ ((rd_T42 x7 x8).f1) then (some true) else (brambleref02_Holds.l0 k x1 x2 x7 (wrap64 (x8 + 1)))) else (brambleref02_Holds.l0 k x1 x2 x7 (wrap64 (x8 + 1)))) else (none)) else (some (decide (x2 < x1)))
def brambleref02_Holds.f (k : Nat) (l0_0 : List (S98)) (a0_1 : Int) (a1 : Int) (a2 : Int) : Option (Bool) := (brambleref02_Runs.f k l0_0 a0_1).bind fun t205 => (brambleref02_Holds.l0 k a1 a2 t205 0)
theorem brambleref02_Holds.mono_l : ∀ k, (∀ y0 y1 y2 y3, LeO (brambleref02_Holds.l0 k y0 y1 y2 y3) (brambleref02_Holds.l0 (k + 1) y0 y1 y2 y3))
  | 0 => fun _ _ _ _ r h => by simp [brambleref02_Holds.l0] at h
  | k + 1 => by
    have ih0 := brambleref02_Holds.mono_l k
    · intro y0 y1 y2 y3
      unfold brambleref02_Holds.l0
      repeat' first
      | (with_reducible exact ih0 _ _ _ _)
      | (with_reducible exact brambleref02_Runs.mono _ _ _)
      | (with_reducible exact LeO.refl _)
      | (with_reducible exact LeO.none _)
      | (with_reducible refine LeO.ite ?_ ?_)
      | (with_reducible refine LeO.bind ?_ (fun _ => ?_))
      | exact ih0 _ _ _ _
      | exact brambleref02_Runs.mono _ _ _
      | exact LeO.none _
      | refine LeO.ite ?_ ?_
      | refine LeO.bind ?_ (fun _ => ?_)
theorem brambleref02_Holds.mono : ∀ a0 a1 a2 a3 k, LeO (brambleref02_Holds.f k a0 a1 a2 a3) (brambleref02_Holds.f (k + 1) a0 a1 a2 a3) := by
  intro a0 a1 a2 a3 k
  have ih0 := brambleref02_Holds.mono_l k
  unfold brambleref02_Holds.f
  repeat' first
      | (with_reducible exact ih0 _ _ _ _)
      | (with_reducible exact brambleref02_Runs.mono _ _ _)
      | (with_reducible exact LeO.refl _)
      | (with_reducible exact LeO.none _)
      | (with_reducible refine LeO.ite ?_ ?_)
      | (with_reducible refine LeO.bind ?_ (fun _ => ?_))
      | exact ih0 _ _ _ _
      | exact brambleref02_Runs.mono _ _ _
      | exact LeO.none _
      | refine LeO.ite ?_ ?_
      | refine LeO.bind ?_ (fun _ => ?_)
set_option maxHeartbeats 8000000 in
set_option maxRecDepth 100000 in
theorem brambleref02_Holds.calls (k : Nat) (A0_0 : Option Addr) (c0_0 : Nat) (l0_0 : List (S98)) (a0_1 : Int) (a1 : Int) (a2 : Int) (r : Bool) (w : World) (hr0_0 : Kd.C k98 w A0_0 l0_0.length l0_0) (hc0_0 : l0_0.length ≤ c0_0) (h : brambleref02_Holds.f k l0_0 a0_1 a1 a2 = some r) :
    Calls Try.prog 43 #[.agg #[.slice A0_0 l0_0.length c0_0, .int .i64 a0_1], .int .i64 a1, .int .i64 a2] w fun e w' => e = .returned (.bool r) ∧ Below w.heap.size w w' := by
  have hu68 := Try.underlying68
  have HR0_0 := Aside0.mk hr0_0
  have HC0_0 := Aside0.mk hc0_0
  clear hr0_0 hc0_0
  have HB := Aside0.mk (Below.refl w.heap.size w)
  have H : ((brambleref02_Runs.f k l0_0 a0_1).bind fun t205 => (brambleref02_Holds.l0 k a1 a2 t205 0)) = some r := h
  clear h
  replace H := Option.bind_eq_some_iff.mp H
  obtain ⟨t205, A40, H⟩ := H
  replace H : (brambleref02_Holds.l0 k a1 a2 t205 0) = some r := H
  have A4 := Aside0.mk A40
  clear A40
  have H' := Aside0.mk H
  clear H
  go_enter Try.func43, Try.ntmps43
  go_wp2_with (first | ((with_reducible refine gate_dst (N := 3) rfl ?_); refine box_event ?hg (N := 3) ?hd (cs := #[.slice A0_0 l0_0.length c0_0, .int .i64 a0_1]) (t := 68) ?hr ?_; (case hd => rfl); (case hg => rfl); (case hr => first | (go_simp; done) | (go_simp; rfl)); intro gb204 hg w5 hbox hb; have n0_ := Aside0.mk (below_step (by repeat (first | (with_reducible first | exact HB.out | apply below_alloc | apply pw_below_drewN | apply below_drew1) | exact HB.out)) hb); have n1_ := Aside0.mk (hbox); have n2_ := Aside0.mk ((by rw [hg]; exact (below_size (by repeat (first | (with_reducible first | exact HB.out | apply below_alloc | apply pw_below_drewN | apply below_drew1) | exact HB.out))) : w.heap.size ≤ gb204)); have n3_ := Aside0.mk ((by rw [hg]; exact (below_size (by repeat (first | (with_reducible first | exact HB.out | apply below_alloc | apply pw_below_drewN | apply below_drew1) | exact HB.out))) : w.heap.size ≤ gb204)); clear HB; have HB := n0_; have BK204 := n1_; have GW204 := n2_; have GE204 := n3_; clear n0_ n1_ n2_ n3_; clear hb hbox hg; have hcz6_0 : w5.cell? ⟨gb204, 0, none⟩ = some (.slice A0_0 l0_0.length c0_0) := (blk_cell BK204.out 0).trans rfl; have hcz6_1 : w5.cell? ⟨gb204, 1, none⟩ = some (.int .i64 a0_1) := (blk_cell BK204.out 1).trans rfl; have hfz6_0 := blk_frozen BK204.out 0; have hfz6_1 := blk_frozen BK204.out 1) | ((with_reducible refine gate_callee (f := 38) rfl ?_); refine goesL_ (some 10) rfl rfl Try.func38 (by kernel_rfl) rfl #[.agg #[.slice A0_0 l0_0.length c0_0, .int .i64 a0_1]] rfl (by (try simp only [List.map_toArray, List.map_cons, List.map_nil]); first | done | rfl | (simp only [List.length_drop, List.length_take]; rfl)) ?_; (with_reducible refine (brambleref02_Runs.calls k _ _ l0_0 a0_1 t205 _ ?side1 ?side2 A4.out).mono ?_); (case side1 => repeat (first | exact (Kd.C_below HR0_0.out HB.out) | (with_reducible refine Kd.C_alloc ?_ _) | (with_reducible refine Kd.C_drewN ?_ _) | (with_reducible refine Kd.C_drew ?_))); (case side2 => exact HC0_0.out); rintro e w7 ⟨v206, rfl, ho0, hb⟩; refine ⟨_, rfl, ?_⟩; have n0_ := Aside0.mk (Kd.R_lower ho0 (below_size (by repeat (first | (with_reducible first | exact HB.out | apply below_alloc | apply pw_below_drewN | apply below_drew1 | refine below_set ?_ GE204.out) | exact HB.out)))); have n1_ := Aside0.mk (blk_below (g := gb204) (o := .cells #[.slice A0_0 l0_0.length c0_0, .int .i64 a0_1] 68 (0, 0)) (by (with_reducible repeat (first | refine blk_drewN ?_ _ | refine blk_drew ?_ | refine blk_alloc ?_ _)); exact BK204.out) hb); have n2_ := Aside0.mk (below_step (by repeat (first | (with_reducible first | exact HB.out | apply below_alloc | apply pw_below_drewN | apply below_drew1 | refine below_set ?_ GE204.out) | exact HB.out)) hb); clear BK204; clear HB; have HO207 := n0_; have BK204 := n1_; have HB := n2_; clear n0_ n1_ n2_; (try clear hb); (try clear hb2); (try clear hk); (try clear hi); (try clear ho0)))
  go_loopg [8] k (fun kq v8 w' => ∃ (x8_1 : Int), v8 = .int .i64 x8_1 ∧ Aside0 (brambleref02_Holds.l0 kq a1 a2 t205 x8_1 = some r) ∧ Aside0 (kq ≤ k) ∧ Aside0 (Kd.R k42 42 w' w.heap.size (fun _ => True) v206 t205) ∧ Aside0 (w'.heap[gb204]? = some (.cells #[(.slice A0_0 l0_0.length c0_0), .int .i64 a0_1] 68 (0, 0))) ∧ Aside0 (Below w.heap.size w w'))
  case atStart => exact ⟨(0), (by first | rfl | (simp; done) | (simp [*]; done)), H', ⟨Nat.le_refl _⟩, ⟨by (with_reducible repeat (first | apply Kd.R_alloc | apply Kd.R_drewN | apply Kd.R_drew)); exact HO207.out⟩, ⟨by (with_reducible repeat (first | refine blk_drewN ?_ _ | refine blk_drew ?_ | refine blk_alloc ?_ _)); exact BK204.out⟩, ⟨by repeat (first | (with_reducible first | exact HB.out | apply below_alloc | apply pw_below_drewN | apply below_drew1 | refine below_set ?_ GE204.out) | exact HB.out)⟩⟩
  case round =>
    clear H'
    try clear p2
    try clear c3
    try clear c4
    try clear hcz6_0
    try clear hcz6_1
    try clear hfz6_0
    try clear hfz6_1
    obtain ⟨x8_1, rfl, HA, HK1, HO_7, BK204, HB⟩ := hrel
    cases gk with
    | zero => exact absurd HA.out (by simp [brambleref02_Holds.l0])
    | succ k1 =>
      have H := HA.out
      clear HA
      simp only [brambleref02_Holds.l0] at H
      by_cases c8 : x8_1 < (t205.length : Int)
      · rw [if_pos c8] at H
        have c8b0 : decide (x8_1 < (t205.length : Int)) = true := decide_eq_true c8
        clear c8
        by_cases c9 : 0 ≤ x8_1
        · rw [if_pos c9] at H
          have c9b0 : decide (0 ≤ x8_1) = true := decide_eq_true c9
          clear c9
          by_cases c10 : ((rd_T42 t205 x8_1).f0) ≤ a1
          · rw [if_pos c10] at H
            have c10b0 : decide (((rd_T42 t205 x8_1).f0) ≤ a1) = true := decide_eq_true c10
            clear c10
            by_cases c11 : a2 ≤ ((rd_T42 t205 x8_1).f1)
            · rw [if_pos c11] at H
              have c11b0 : decide (a2 ≤ ((rd_T42 t205 x8_1).f1)) = true := decide_eq_true c11
              clear c11
              obtain rfl := Option.some.inj H
              obtain ⟨Ao12, co12, eo12⟩ := Kd.R_slice HO_7.out
              subst eo12
              have p208 : 0 ≤ (x8_1 : Int) := of_decide_eq_true (by first | (with_reducible assumption) | assumption)
              have q208 : x8_1 < (t205.length : Int) := of_decide_eq_true (by first | (with_reducible assumption) | assumption)
              obtain ⟨ad208, e208, hx208_0, hx208_1⟩ := at_T42 (Kd.R_reads' HO_7.out).2.2 x8_1 p208 q208
              cases e208
              replace p208 := eq_true p208
              replace q208 := eq_true q208
              have p209 : 0 ≤ (x8_1 : Int) := of_decide_eq_true (by first | (with_reducible assumption) | assumption)
              have q209 : x8_1 < (t205.length : Int) := of_decide_eq_true (by first | (with_reducible assumption) | assumption)
              obtain ⟨ad209, e209, hx209_0, hx209_1⟩ := at_T42 (Kd.R_reads' HO_7.out).2.2 x8_1 p209 q209
              obtain rfl : ad208 = ad209 := (by injection e209)
              replace p209 := eq_true p209
              replace q209 := eq_true q209
              go_wp2
              go_ret
              exact ⟨by first | rfl | (simp [errW_none, errW_some] <;> rfl) | (simp [*, errW_none, errW_some] <;> rfl), by repeat (first | (with_reducible first | exact HB.out | apply below_alloc | apply pw_below_drewN | apply below_drew1 | refine below_set ?_ GE204.out) | exact HB.out)⟩
            · rw [if_neg c11] at H
              have c11b0 : decide (a2 ≤ ((rd_T42 t205 x8_1).f1)) = false := decide_eq_false c11
              clear c11
              have H' := Aside0.mk H
              clear H
              obtain ⟨Ao13, co13, eo13⟩ := Kd.R_slice HO_7.out
              subst eo13
              have p208 : 0 ≤ (x8_1 : Int) := of_decide_eq_true (by first | (with_reducible assumption) | assumption)
              have q208 : x8_1 < (t205.length : Int) := of_decide_eq_true (by first | (with_reducible assumption) | assumption)
              obtain ⟨ad208, e208, hx208_0, hx208_1⟩ := at_T42 (Kd.R_reads' HO_7.out).2.2 x8_1 p208 q208
              cases e208
              replace p208 := eq_true p208
              replace q208 := eq_true q208
              have p209 : 0 ≤ (x8_1 : Int) := of_decide_eq_true (by first | (with_reducible assumption) | assumption)
              have q209 : x8_1 < (t205.length : Int) := of_decide_eq_true (by first | (with_reducible assumption) | assumption)
              obtain ⟨ad209, e209, hx209_0, hx209_1⟩ := at_T42 (Kd.R_reads' HO_7.out).2.2 x8_1 p209 q209
              obtain rfl : ad208 = ad209 := (by injection e209)
              replace p209 := eq_true p209
              replace q209 := eq_true q209
              go_wp2
              go_roundg k1
              case measure => have := HK1.out; omega
              case rel => exact ⟨(wrap64 (x8_1 + 1)), (by first | rfl | (simp; done) | (simp [*]; done)), H', ⟨by have := HK1.out; omega⟩, ⟨by (with_reducible repeat (first | apply Kd.R_alloc | apply Kd.R_drewN | apply Kd.R_drew)); exact HO_7.out⟩, ⟨by (with_reducible repeat (first | refine blk_drewN ?_ _ | refine blk_drew ?_ | refine blk_alloc ?_ _)); exact BK204.out⟩, ⟨by repeat (first | (with_reducible first | exact HB.out | apply below_alloc | apply pw_below_drewN | apply below_drew1 | refine below_set ?_ GE204.out) | exact HB.out)⟩⟩
          · rw [if_neg c10] at H
            have c10b0 : decide (((rd_T42 t205 x8_1).f0) ≤ a1) = false := decide_eq_false c10
            clear c10
            have H' := Aside0.mk H
            clear H
            obtain ⟨Ao14, co14, eo14⟩ := Kd.R_slice HO_7.out
            subst eo14
            have p208 : 0 ≤ (x8_1 : Int) := of_decide_eq_true (by first | (with_reducible assumption) | assumption)
            have q208 : x8_1 < (t205.length : Int) := of_decide_eq_true (by first | (with_reducible assumption) | assumption)
            obtain ⟨ad208, e208, hx208_0, hx208_1⟩ := at_T42 (Kd.R_reads' HO_7.out).2.2 x8_1 p208 q208
            cases e208
            replace p208 := eq_true p208
            replace q208 := eq_true q208
            go_wp2
            go_roundg k1
            case measure => have := HK1.out; omega
            case rel => exact ⟨(wrap64 (x8_1 + 1)), (by first | rfl | (simp; done) | (simp [*]; done)), H', ⟨by have := HK1.out; omega⟩, ⟨by (with_reducible repeat (first | apply Kd.R_alloc | apply Kd.R_drewN | apply Kd.R_drew)); exact HO_7.out⟩, ⟨by (with_reducible repeat (first | refine blk_drewN ?_ _ | refine blk_drew ?_ | refine blk_alloc ?_ _)); exact BK204.out⟩, ⟨by repeat (first | (with_reducible first | exact HB.out | apply below_alloc | apply pw_below_drewN | apply below_drew1 | refine below_set ?_ GE204.out) | exact HB.out)⟩⟩
        · rw [if_neg c9] at H
          exact absurd H (by simp)
      · rw [if_neg c8] at H
        have c8b0 : decide (x8_1 < (t205.length : Int)) = false := decide_eq_false c8
        clear c8
        obtain rfl := Option.some.inj H
        obtain ⟨Ao15, co15, eo15⟩ := Kd.R_slice HO_7.out
        subst eo15
        go_wp2
        go_ret
        exact ⟨by first | rfl | (simp [errW_none, errW_some] <;> rfl) | (simp [*, errW_none, errW_some] <;> rfl), by repeat (first | (with_reducible first | exact HB.out | apply below_alloc | apply pw_below_drewN | apply below_drew1 | refine below_set ?_ GE204.out) | exact HB.out)⟩

/-! ### brambleref02_Meets: function 45 -/
def brambleref02_Meets.l0 : Nat → Int → Int → List (S42) → Int → Option (Bool)
  | 0, _, _, _, _ => none
  | k + 1, x1, x2, x7, x8 => if x8 < (x7.length : Int) then (if 0 ≤ x8 then (if (mx ((rd_T42 x7 x8).f0) x1) ≤ (mn ((rd_T42 x7 x8).f1) x2) then (some true) else (brambleref02_Meets.l0 k x1 x2 x7 (wrap64 (x8 + 1)))) else (none)) else (some false)
def brambleref02_Meets.f (k : Nat) (l0_0 : List (S98)) (a0_1 : Int) (a1 : Int) (a2 : Int) : Option (Bool) := (brambleref02_Runs.f k l0_0 a0_1).bind fun t211 => (brambleref02_Meets.l0 k a1 a2 t211 0)
theorem brambleref02_Meets.mono_l : ∀ k, (∀ y0 y1 y2 y3, LeO (brambleref02_Meets.l0 k y0 y1 y2 y3) (brambleref02_Meets.l0 (k + 1) y0 y1 y2 y3))
  | 0 => fun _ _ _ _ r h => by simp [brambleref02_Meets.l0] at h
  | k + 1 => by
    have ih0 := brambleref02_Meets.mono_l k
    · intro y0 y1 y2 y3
      unfold brambleref02_Meets.l0
      repeat' first
      | (with_reducible exact ih0 _ _ _ _)
      | (with_reducible exact brambleref02_Runs.mono _ _ _)
      | (with_reducible exact LeO.refl _)
      | (with_reducible exact LeO.none _)
      | (with_reducible refine LeO.ite ?_ ?_)
      | (with_reducible refine LeO.bind ?_ (fun _ => ?_))
      | exact ih0 _ _ _ _
      | exact brambleref02_Runs.mono _ _ _
      | exact LeO.none _
      | refine LeO.ite ?_ ?_
      | refine LeO.bind ?_ (fun _ => ?_)
theorem brambleref02_Meets.mono : ∀ a0 a1 a2 a3 k, LeO (brambleref02_Meets.f k a0 a1 a2 a3) (brambleref02_Meets.f (k + 1) a0 a1 a2 a3) := by
  intro a0 a1 a2 a3 k
  have ih0 := brambleref02_Meets.mono_l k
  unfold brambleref02_Meets.f
  repeat' first
      | (with_reducible exact ih0 _ _ _ _)
      | (with_reducible exact brambleref02_Runs.mono _ _ _)
      | (with_reducible exact LeO.refl _)
      | (with_reducible exact LeO.none _)
      | (with_reducible refine LeO.ite ?_ ?_)
      | (with_reducible refine LeO.bind ?_ (fun _ => ?_))
      | exact ih0 _ _ _ _
      | exact brambleref02_Runs.mono _ _ _
      | exact LeO.none _
      | refine LeO.ite ?_ ?_
      | refine LeO.bind ?_ (fun _ => ?_)
set_option maxHeartbeats 8000000 in
set_option maxRecDepth 100000 in
theorem brambleref02_Meets.calls (k : Nat) (A0_0 : Option Addr) (c0_0 : Nat) (l0_0 : List (S98)) (a0_1 : Int) (a1 : Int) (a2 : Int) (r : Bool) (w : World) (hr0_0 : Kd.C k98 w A0_0 l0_0.length l0_0) (hc0_0 : l0_0.length ≤ c0_0) (h : brambleref02_Meets.f k l0_0 a0_1 a1 a2 = some r) :
    Calls Try.prog 45 #[.agg #[.slice A0_0 l0_0.length c0_0, .int .i64 a0_1], .int .i64 a1, .int .i64 a2] w fun e w' => e = .returned (.bool r) ∧ Below w.heap.size w w' := by
  have hu68 := Try.underlying68
  have HR0_0 := Aside0.mk hr0_0
  have HC0_0 := Aside0.mk hc0_0
  clear hr0_0 hc0_0
  have HB := Aside0.mk (Below.refl w.heap.size w)
  have H : ((brambleref02_Runs.f k l0_0 a0_1).bind fun t211 => (brambleref02_Meets.l0 k a1 a2 t211 0)) = some r := h
  clear h
  replace H := Option.bind_eq_some_iff.mp H
  obtain ⟨t211, A40, H⟩ := H
  replace H : (brambleref02_Meets.l0 k a1 a2 t211 0) = some r := H
  have A4 := Aside0.mk A40
  clear A40
  have H' := Aside0.mk H
  clear H
  go_enter Try.func45, Try.ntmps45
  go_wp2_with (first | ((with_reducible refine gate_dst (N := 3) rfl ?_); refine box_event ?hg (N := 3) ?hd (cs := #[.slice A0_0 l0_0.length c0_0, .int .i64 a0_1]) (t := 68) ?hr ?_; (case hd => rfl); (case hg => rfl); (case hr => first | (go_simp; done) | (go_simp; rfl)); intro gb210 hg w5 hbox hb; have n0_ := Aside0.mk (below_step (by repeat (first | (with_reducible first | exact HB.out | apply below_alloc | apply pw_below_drewN | apply below_drew1) | exact HB.out)) hb); have n1_ := Aside0.mk (hbox); have n2_ := Aside0.mk ((by rw [hg]; exact (below_size (by repeat (first | (with_reducible first | exact HB.out | apply below_alloc | apply pw_below_drewN | apply below_drew1) | exact HB.out))) : w.heap.size ≤ gb210)); have n3_ := Aside0.mk ((by rw [hg]; exact (below_size (by repeat (first | (with_reducible first | exact HB.out | apply below_alloc | apply pw_below_drewN | apply below_drew1) | exact HB.out))) : w.heap.size ≤ gb210)); clear HB; have HB := n0_; have BK210 := n1_; have GW210 := n2_; have GE210 := n3_; clear n0_ n1_ n2_ n3_; clear hb hbox hg; have hcz6_0 : w5.cell? ⟨gb210, 0, none⟩ = some (.slice A0_0 l0_0.length c0_0) := (blk_cell BK210.out 0).trans rfl; have hcz6_1 : w5.cell? ⟨gb210, 1, none⟩ = some (.int .i64 a0_1) := (blk_cell BK210.out 1).trans rfl; have hfz6_0 := blk_frozen BK210.out 0; have hfz6_1 := blk_frozen BK210.out 1) | (go_at_call 38; (with_reducible refine (brambleref02_Runs.calls k _ _ l0_0 a0_1 t211 _ ?side1 ?side2 A4.out).mono ?_); (case side1 => repeat (first | exact (Kd.C_below HR0_0.out HB.out) | (with_reducible refine Kd.C_alloc ?_ _) | (with_reducible refine Kd.C_drewN ?_ _) | (with_reducible refine Kd.C_drew ?_))); (case side2 => exact HC0_0.out); rintro e w7 ⟨v212, rfl, ho0, hb⟩; have n0_ := Aside0.mk (Kd.R_lower ho0 (below_size (by repeat (first | (with_reducible first | exact HB.out | apply below_alloc | apply pw_below_drewN | apply below_drew1 | refine below_set ?_ GE210.out) | exact HB.out)))); have n1_ := Aside0.mk (blk_below (g := gb210) (o := .cells #[.slice A0_0 l0_0.length c0_0, .int .i64 a0_1] 68 (0, 0)) (by (with_reducible repeat (first | refine blk_drewN ?_ _ | refine blk_drew ?_ | refine blk_alloc ?_ _)); exact BK210.out) hb); have n2_ := Aside0.mk (below_step (by repeat (first | (with_reducible first | exact HB.out | apply below_alloc | apply pw_below_drewN | apply below_drew1 | refine below_set ?_ GE210.out) | exact HB.out)) hb); clear BK210; clear HB; have HO213 := n0_; have BK210 := n1_; have HB := n2_; clear n0_ n1_ n2_; (try clear hb); (try clear hb2); (try clear hk); (try clear hi); (try clear ho0)))
  repeat (go_quiet (first | ((with_reducible refine gate_dst (N := 3) rfl ?_); refine box_event ?hg (N := 3) ?hd (cs := #[.slice A0_0 l0_0.length c0_0, .int .i64 a0_1]) (t := 68) ?hr ?_; (case hd => rfl); (case hg => rfl); (case hr => first | (go_simp; done) | (go_simp; rfl)); intro gb210 hg w5 hbox hb; have n0_ := Aside0.mk (below_step (by repeat (first | (with_reducible first | exact HB.out | apply below_alloc | apply pw_below_drewN | apply below_drew1) | exact HB.out)) hb); have n1_ := Aside0.mk (hbox); have n2_ := Aside0.mk ((by rw [hg]; exact (below_size (by repeat (first | (with_reducible first | exact HB.out | apply below_alloc | apply pw_below_drewN | apply below_drew1) | exact HB.out))) : w.heap.size ≤ gb210)); have n3_ := Aside0.mk ((by rw [hg]; exact (below_size (by repeat (first | (with_reducible first | exact HB.out | apply below_alloc | apply pw_below_drewN | apply below_drew1) | exact HB.out))) : w.heap.size ≤ gb210)); clear HB; have HB := n0_; have BK210 := n1_; have GW210 := n2_; have GE210 := n3_; clear n0_ n1_ n2_ n3_; clear hb hbox hg; have hcz6_0 : w5.cell? ⟨gb210, 0, none⟩ = some (.slice A0_0 l0_0.length c0_0) := (blk_cell BK210.out 0).trans rfl; have hcz6_1 : w5.cell? ⟨gb210, 1, none⟩ = some (.int .i64 a0_1) := (blk_cell BK210.out 1).trans rfl; have hfz6_0 := blk_frozen BK210.out 0; have hfz6_1 := blk_frozen BK210.out 1) | (go_at_call 38; (with_reducible refine (brambleref02_Runs.calls k _ _ l0_0 a0_1 t211 _ ?side1 ?side2 A4.out).mono ?_); (case side1 => repeat (first | exact (Kd.C_below HR0_0.out HB.out) | (with_reducible refine Kd.C_alloc ?_ _) | (with_reducible refine Kd.C_drewN ?_ _) | (with_reducible refine Kd.C_drew ?_))); (case side2 => exact HC0_0.out); rintro e w7 ⟨v212, rfl, ho0, hb⟩; have n0_ := Aside0.mk (Kd.R_lower ho0 (below_size (by repeat (first | (with_reducible first | exact HB.out | apply below_alloc | apply pw_below_drewN | apply below_drew1 | refine below_set ?_ GE210.out) | exact HB.out)))); have n1_ := Aside0.mk (blk_below (g := gb210) (o := .cells #[.slice A0_0 l0_0.length c0_0, .int .i64 a0_1] 68 (0, 0)) (by (with_reducible repeat (first | refine blk_drewN ?_ _ | refine blk_drew ?_ | refine blk_alloc ?_ _)); exact BK210.out) hb); have n2_ := Aside0.mk (below_step (by repeat (first | (with_reducible first | exact HB.out | apply below_alloc | apply pw_below_drewN | apply below_drew1 | refine below_set ?_ GE210.out) | exact HB.out)) hb); clear BK210; clear HB; have HO213 := n0_; have BK210 := n1_; have HB := n2_; clear n0_ n1_ n2_; (try clear hb); (try clear hb2); (try clear hk); (try clear hi); (try clear ho0))); try go_wp2_with (first | ((with_reducible refine gate_dst (N := 3) rfl ?_); refine box_event ?hg (N := 3) ?hd (cs := #[.slice A0_0 l0_0.length c0_0, .int .i64 a0_1]) (t := 68) ?hr ?_; (case hd => rfl); (case hg => rfl); (case hr => first | (go_simp; done) | (go_simp; rfl)); intro gb210 hg w5 hbox hb; have n0_ := Aside0.mk (below_step (by repeat (first | (with_reducible first | exact HB.out | apply below_alloc | apply pw_below_drewN | apply below_drew1) | exact HB.out)) hb); have n1_ := Aside0.mk (hbox); have n2_ := Aside0.mk ((by rw [hg]; exact (below_size (by repeat (first | (with_reducible first | exact HB.out | apply below_alloc | apply pw_below_drewN | apply below_drew1) | exact HB.out))) : w.heap.size ≤ gb210)); have n3_ := Aside0.mk ((by rw [hg]; exact (below_size (by repeat (first | (with_reducible first | exact HB.out | apply below_alloc | apply pw_below_drewN | apply below_drew1) | exact HB.out))) : w.heap.size ≤ gb210)); clear HB; have HB := n0_; have BK210 := n1_; have GW210 := n2_; have GE210 := n3_; clear n0_ n1_ n2_ n3_; clear hb hbox hg; have hcz6_0 : w5.cell? ⟨gb210, 0, none⟩ = some (.slice A0_0 l0_0.length c0_0) := (blk_cell BK210.out 0).trans rfl; have hcz6_1 : w5.cell? ⟨gb210, 1, none⟩ = some (.int .i64 a0_1) := (blk_cell BK210.out 1).trans rfl; have hfz6_0 := blk_frozen BK210.out 0; have hfz6_1 := blk_frozen BK210.out 1) | (go_at_call 38; (with_reducible refine (brambleref02_Runs.calls k _ _ l0_0 a0_1 t211 _ ?side1 ?side2 A4.out).mono ?_); (case side1 => repeat (first | exact (Kd.C_below HR0_0.out HB.out) | (with_reducible refine Kd.C_alloc ?_ _) | (with_reducible refine Kd.C_drewN ?_ _) | (with_reducible refine Kd.C_drew ?_))); (case side2 => exact HC0_0.out); rintro e w7 ⟨v212, rfl, ho0, hb⟩; have n0_ := Aside0.mk (Kd.R_lower ho0 (below_size (by repeat (first | (with_reducible first | exact HB.out | apply below_alloc | apply pw_below_drewN | apply below_drew1 | refine below_set ?_ GE210.out) | exact HB.out)))); have n1_ := Aside0.mk (blk_below (g := gb210) (o := .cells #[.slice A0_0 l0_0.length c0_0, .int .i64 a0_1] 68 (0, 0)) (by (with_reducible repeat (first | refine blk_drewN ?_ _ | refine blk_drew ?_ | refine blk_alloc ?_ _)); exact BK210.out) hb); have n2_ := Aside0.mk (below_step (by repeat (first | (with_reducible first | exact HB.out | apply below_alloc | apply pw_below_drewN | apply below_drew1 | refine below_set ?_ GE210.out) | exact HB.out)) hb); clear BK210; clear HB; have HO213 := n0_; have BK210 := n1_; have HB := n2_; clear n0_ n1_ n2_; (try clear hb); (try clear hb2); (try clear hk); (try clear hi); (try clear ho0))))
  go_loopg [8] k (fun kq v8 w' => ∃ (x8_1 : Int), v8 = .int .i64 x8_1 ∧ Aside0 (brambleref02_Meets.l0 kq a1 a2 t211 x8_1 = some r) ∧ Aside0 (kq ≤ k) ∧ Aside0 (Kd.R k42 42 w' w.heap.size (fun _ => True) v212 t211) ∧ Aside0 (w'.heap[gb210]? = some (.cells #[(.slice A0_0 l0_0.length c0_0), .int .i64 a0_1] 68 (0, 0))) ∧ Aside0 (Below w.heap.size w w'))
  case atStart => exact ⟨(0), (by first | rfl | (simp; done) | (simp [*]; done)), H', ⟨Nat.le_refl _⟩, ⟨by (with_reducible repeat (first | apply Kd.R_alloc | apply Kd.R_drewN | apply Kd.R_drew)); exact HO213.out⟩, ⟨by (with_reducible repeat (first | refine blk_drewN ?_ _ | refine blk_drew ?_ | refine blk_alloc ?_ _)); exact BK210.out⟩, ⟨by repeat (first | (with_reducible first | exact HB.out | apply below_alloc | apply pw_below_drewN | apply below_drew1 | refine below_set ?_ GE210.out) | exact HB.out)⟩⟩
  case round =>
    clear H'
    try clear p2
    try clear c4
    try clear hcz6_0
    try clear hcz6_1
    try clear hfz6_0
    try clear hfz6_1
    obtain ⟨x8_1, rfl, HA, HK1, HO_7, BK210, HB⟩ := hrel
    cases gk with
    | zero => exact absurd HA.out (by simp [brambleref02_Meets.l0])
    | succ k1 =>
      have H := HA.out
      clear HA
      simp only [brambleref02_Meets.l0] at H
      by_cases c8 : x8_1 < (t211.length : Int)
      · rw [if_pos c8] at H
        have c8b0 : decide (x8_1 < (t211.length : Int)) = true := decide_eq_true c8
        clear c8
        by_cases c9 : 0 ≤ x8_1
        · rw [if_pos c9] at H
          have c9b0 : decide (0 ≤ x8_1) = true := decide_eq_true c9
          clear c9
          obtain ⟨ji10, hji10⟩ : ∃ j_ : Int, (mx ((rd_T42 t211 x8_1).f0) a1) = j_ := ⟨_, rfl⟩
          replace H : (if (ji10) ≤ (mn ((rd_T42 t211 x8_1).f1) a2) then (some true) else (brambleref02_Meets.l0 k1 a1 a2 t211 (wrap64 (x8_1 + 1)))) = some r := by first | (rw [hji10] at H; exact H) | (simp only [hji10] at H ⊢; exact H)
          have hji10_ : (if ((rd_T42 t211 x8_1).f0) < a1 then a1 else ((rd_T42 t211 x8_1).f0)) = ji10 := hji10
          obtain ⟨ji11, hji11⟩ : ∃ j_ : Int, (mn ((rd_T42 t211 x8_1).f1) a2) = j_ := ⟨_, rfl⟩
          replace H : (if (ji10) ≤ (ji11) then (some true) else (brambleref02_Meets.l0 k1 a1 a2 t211 (wrap64 (x8_1 + 1)))) = some r := by first | (rw [hji11] at H; exact H) | (simp only [hji11] at H ⊢; exact H)
          have hji11_ : (if a2 < ((rd_T42 t211 x8_1).f1) then a2 else ((rd_T42 t211 x8_1).f1)) = ji11 := hji11
          by_cases c12 : (ji10) ≤ (ji11)
          · rw [if_pos c12] at H
            have c12b0 : decide ((ji10) ≤ (ji11)) = true := decide_eq_true c12
            clear c12
            obtain rfl := Option.some.inj H
            obtain ⟨Ao13, co13, eo13⟩ := Kd.R_slice HO_7.out
            subst eo13
            have p214 : 0 ≤ (x8_1 : Int) := of_decide_eq_true (by first | (with_reducible assumption) | assumption)
            have q214 : x8_1 < (t211.length : Int) := of_decide_eq_true (by first | (with_reducible assumption) | assumption)
            obtain ⟨ad214, e214, hx214_0, hx214_1⟩ := at_T42 (Kd.R_reads' HO_7.out).2.2 x8_1 p214 q214
            cases e214
            replace p214 := eq_true p214
            replace q214 := eq_true q214
            have p215 : 0 ≤ (x8_1 : Int) := of_decide_eq_true (by first | (with_reducible assumption) | assumption)
            have q215 : x8_1 < (t211.length : Int) := of_decide_eq_true (by first | (with_reducible assumption) | assumption)
            obtain ⟨ad215, e215, hx215_0, hx215_1⟩ := at_T42 (Kd.R_reads' HO_7.out).2.2 x8_1 p215 q215
            obtain rfl : ad214 = ad215 := (by injection e215)
            replace p215 := eq_true p215
            replace q215 := eq_true q215
            go_wp2
            repeat (go_quiet (fail); try go_wp2)
            go_ret
            exact ⟨by first | rfl | (simp [errW_none, errW_some] <;> rfl) | (simp only [← hji10, ← hji11]; first | rfl | (simp [errW_none, errW_some] <;> rfl)) | (simp [*, errW_none, errW_some] <;> rfl), by repeat (first | (with_reducible first | exact HB.out | apply below_alloc | apply pw_below_drewN | apply below_drew1 | refine below_set ?_ GE210.out) | exact HB.out)⟩
          · rw [if_neg c12] at H
            have c12b0 : decide ((ji10) ≤ (ji11)) = false := decide_eq_false c12
            clear c12
            have H' := Aside0.mk H
            clear H
            obtain ⟨Ao14, co14, eo14⟩ := Kd.R_slice HO_7.out
            subst eo14
            have p214 : 0 ≤ (x8_1 : Int) := of_decide_eq_true (by first | (with_reducible assumption) | assumption)
            have q214 : x8_1 < (t211.length : Int) := of_decide_eq_true (by first | (with_reducible assumption) | assumption)
            obtain ⟨ad214, e214, hx214_0, hx214_1⟩ := at_T42 (Kd.R_reads' HO_7.out).2.2 x8_1 p214 q214
            cases e214
            replace p214 := eq_true p214
            replace q214 := eq_true q214
            have p215 : 0 ≤ (x8_1 : Int) := of_decide_eq_true (by first | (with_reducible assumption) | assumption)
            have q215 : x8_1 < (t211.length : Int) := of_decide_eq_true (by first | (with_reducible assumption) | assumption)
            obtain ⟨ad215, e215, hx215_0, hx215_1⟩ := at_T42 (Kd.R_reads' HO_7.out).2.2 x8_1 p215 q215
            obtain rfl : ad214 = ad215 := (by injection e215)
            replace p215 := eq_true p215
            replace q215 := eq_true q215
            go_wp2
            repeat (go_quiet (fail); try go_wp2)
            go_roundg k1
            case measure => have := HK1.out; omega
            case rel => exact ⟨(wrap64 (x8_1 + 1)), (by first | rfl | (simp; done) | (simp [*]; done)), H', ⟨by have := HK1.out; omega⟩, ⟨by (with_reducible repeat (first | apply Kd.R_alloc | apply Kd.R_drewN | apply Kd.R_drew)); exact HO_7.out⟩, ⟨by (with_reducible repeat (first | refine blk_drewN ?_ _ | refine blk_drew ?_ | refine blk_alloc ?_ _)); exact BK210.out⟩, ⟨by repeat (first | (with_reducible first | exact HB.out | apply below_alloc | apply pw_below_drewN | apply below_drew1 | refine below_set ?_ GE210.out) | exact HB.out)⟩⟩
        · rw [if_neg c9] at H
          exact absurd H (by simp)
      · rw [if_neg c8] at H
        have c8b0 : decide (x8_1 < (t211.length : Int)) = false := decide_eq_false c8
        clear c8
        obtain rfl := Option.some.inj H
        obtain ⟨Ao15, co15, eo15⟩ := Kd.R_slice HO_7.out
        subst eo15
        go_wp2
        repeat (go_quiet (fail); try go_wp2)
        go_ret
        exact ⟨by first | rfl | (simp [errW_none, errW_some] <;> rfl) | (simp [*, errW_none, errW_some] <;> rfl), by repeat (first | (with_reducible first | exact HB.out | apply below_alloc | apply pw_below_drewN | apply below_drew1 | refine below_set ?_ GE210.out) | exact HB.out)⟩

/-! ### brambleref02_Next: function 46 -/
def brambleref02_Next.l0 : Nat → Int → List (S42) → Int → Option (Int × Bool)
  | 0, _, _, _ => none
  | k + 1, x1, x6, x7 => if x7 < (x6.length : Int) then (if 0 ≤ x7 then (if ((rd_T42 x6 x7).f1) ≥ x1 then (some (mx x1 ((rd_T42 x6 x7).f0), true)) else (brambleref02_Next.l0 k x1 x6 (wrap64 (x7 + 1)))) else (none)) else (some (0, false))
def brambleref02_Next.f (k : Nat) (l0_0 : List (S98)) (a0_1 : Int) (a1 : Int) : Option (Int × Bool) := (brambleref02_Runs.f k l0_0 a0_1).bind fun t217 => (brambleref02_Next.l0 k a1 t217 0)
theorem brambleref02_Next.mono_l : ∀ k, (∀ y0 y1 y2, LeO (brambleref02_Next.l0 k y0 y1 y2) (brambleref02_Next.l0 (k + 1) y0 y1 y2))
  | 0 => fun _ _ _ r h => by simp [brambleref02_Next.l0] at h
  | k + 1 => by
    have ih0 := brambleref02_Next.mono_l k
    · intro y0 y1 y2
      unfold brambleref02_Next.l0
      repeat' first
      | (with_reducible exact ih0 _ _ _)
      | (with_reducible exact brambleref02_Runs.mono _ _ _)
      | (with_reducible exact LeO.refl _)
      | (with_reducible exact LeO.none _)
      | (with_reducible refine LeO.ite ?_ ?_)
      | (with_reducible refine LeO.bind ?_ (fun _ => ?_))
      | exact ih0 _ _ _
      | exact brambleref02_Runs.mono _ _ _
      | exact LeO.none _
      | refine LeO.ite ?_ ?_
      | refine LeO.bind ?_ (fun _ => ?_)
theorem brambleref02_Next.mono : ∀ a0 a1 a2 k, LeO (brambleref02_Next.f k a0 a1 a2) (brambleref02_Next.f (k + 1) a0 a1 a2) := by
  intro a0 a1 a2 k
  have ih0 := brambleref02_Next.mono_l k
  unfold brambleref02_Next.f
  repeat' first
      | (with_reducible exact ih0 _ _ _)
      | (with_reducible exact brambleref02_Runs.mono _ _ _)
      | (with_reducible exact LeO.refl _)
      | (with_reducible exact LeO.none _)
      | (with_reducible refine LeO.ite ?_ ?_)
      | (with_reducible refine LeO.bind ?_ (fun _ => ?_))
      | exact ih0 _ _ _
      | exact brambleref02_Runs.mono _ _ _
      | exact LeO.none _
      | refine LeO.ite ?_ ?_
      | refine LeO.bind ?_ (fun _ => ?_)
set_option maxHeartbeats 8000000 in
set_option maxRecDepth 100000 in
theorem brambleref02_Next.calls (k : Nat) (A0_0 : Option Addr) (c0_0 : Nat) (l0_0 : List (S98)) (a0_1 : Int) (a1 : Int) (r1 : Int) (r2 : Bool) (w : World) (hr0_0 : Kd.C k98 w A0_0 l0_0.length l0_0) (hc0_0 : l0_0.length ≤ c0_0) (h : brambleref02_Next.f k l0_0 a0_1 a1 = some (r1, r2)) :
    Calls Try.prog 46 #[.agg #[.slice A0_0 l0_0.length c0_0, .int .i64 a0_1], .int .i64 a1] w fun e w' => e = .returned (.tuple #[.int .i64 r1, .bool r2]) ∧ Below w.heap.size w w' := by
  have hu68 := Try.underlying68
  have HR0_0 := Aside0.mk hr0_0
  have HC0_0 := Aside0.mk hc0_0
  clear hr0_0 hc0_0
  have HB := Aside0.mk (Below.refl w.heap.size w)
  have H : ((brambleref02_Runs.f k l0_0 a0_1).bind fun t217 => (brambleref02_Next.l0 k a1 t217 0)) = some (r1, r2) := h
  clear h
  replace H := Option.bind_eq_some_iff.mp H
  obtain ⟨t217, A30, H⟩ := H
  replace H : (brambleref02_Next.l0 k a1 t217 0) = some (r1, r2) := H
  have A3 := Aside0.mk A30
  clear A30
  have H' := Aside0.mk H
  clear H
  go_enter Try.func46, Try.ntmps46
  go_wp2_with (first | ((with_reducible refine gate_dst (N := 2) rfl ?_); refine box_event ?hg (N := 2) ?hd (cs := #[.slice A0_0 l0_0.length c0_0, .int .i64 a0_1]) (t := 68) ?hr ?_; (case hd => rfl); (case hg => rfl); (case hr => first | (go_simp; done) | (go_simp; rfl)); intro gb216 hg w4 hbox hb; have n0_ := Aside0.mk (below_step (by repeat (first | (with_reducible first | exact HB.out | apply below_alloc | apply pw_below_drewN | apply below_drew1) | exact HB.out)) hb); have n1_ := Aside0.mk (hbox); have n2_ := Aside0.mk ((by rw [hg]; exact (below_size (by repeat (first | (with_reducible first | exact HB.out | apply below_alloc | apply pw_below_drewN | apply below_drew1) | exact HB.out))) : w.heap.size ≤ gb216)); have n3_ := Aside0.mk ((by rw [hg]; exact (below_size (by repeat (first | (with_reducible first | exact HB.out | apply below_alloc | apply pw_below_drewN | apply below_drew1) | exact HB.out))) : w.heap.size ≤ gb216)); clear HB; have HB := n0_; have BK216 := n1_; have GW216 := n2_; have GE216 := n3_; clear n0_ n1_ n2_ n3_; clear hb hbox hg; have hcz5_0 : w4.cell? ⟨gb216, 0, none⟩ = some (.slice A0_0 l0_0.length c0_0) := (blk_cell BK216.out 0).trans rfl; have hcz5_1 : w4.cell? ⟨gb216, 1, none⟩ = some (.int .i64 a0_1) := (blk_cell BK216.out 1).trans rfl; have hfz5_0 := blk_frozen BK216.out 0; have hfz5_1 := blk_frozen BK216.out 1) | ((with_reducible refine gate_callee (f := 38) rfl ?_); refine goesL_ (some 9) rfl rfl Try.func38 (by kernel_rfl) rfl #[.agg #[.slice A0_0 l0_0.length c0_0, .int .i64 a0_1]] rfl (by (try simp only [List.map_toArray, List.map_cons, List.map_nil]); first | done | rfl | (simp only [List.length_drop, List.length_take]; rfl)) ?_; (with_reducible refine (brambleref02_Runs.calls k _ _ l0_0 a0_1 t217 _ ?side1 ?side2 A3.out).mono ?_); (case side1 => repeat (first | exact (Kd.C_below HR0_0.out HB.out) | (with_reducible refine Kd.C_alloc ?_ _) | (with_reducible refine Kd.C_drewN ?_ _) | (with_reducible refine Kd.C_drew ?_))); (case side2 => exact HC0_0.out); rintro e w6 ⟨v218, rfl, ho0, hb⟩; refine ⟨_, rfl, ?_⟩; have n0_ := Aside0.mk (Kd.R_lower ho0 (below_size (by repeat (first | (with_reducible first | exact HB.out | apply below_alloc | apply pw_below_drewN | apply below_drew1 | refine below_set ?_ GE216.out) | exact HB.out)))); have n1_ := Aside0.mk (blk_below (g := gb216) (o := .cells #[.slice A0_0 l0_0.length c0_0, .int .i64 a0_1] 68 (0, 0)) (by (with_reducible repeat (first | refine blk_drewN ?_ _ | refine blk_drew ?_ | refine blk_alloc ?_ _)); exact BK216.out) hb); have n2_ := Aside0.mk (below_step (by repeat (first | (with_reducible first | exact HB.out | apply below_alloc | apply pw_below_drewN | apply below_drew1 | refine below_set ?_ GE216.out) | exact HB.out)) hb); clear BK216; clear HB; have HO219 := n0_; have BK216 := n1_; have HB := n2_; clear n0_ n1_ n2_; (try clear hb); (try clear hb2); (try clear hk); (try clear hi); (try clear ho0)))
  go_loopg [7] k (fun kq v7 w' => ∃ (x7_1 : Int), v7 = .int .i64 x7_1 ∧ Aside0 (brambleref02_Next.l0 kq a1 t217 x7_1 = some (r1, r2)) ∧ Aside0 (kq ≤ k) ∧ Aside0 (Kd.R k42 42 w' w.heap.size (fun _ => True) v218 t217) ∧ Aside0 (w'.heap[gb216]? = some (.cells #[(.slice A0_0 l0_0.length c0_0), .int .i64 a0_1] 68 (0, 0))) ∧ Aside0 (Below w.heap.size w w'))
  case atStart => exact ⟨(0), (by first | rfl | (simp; done) | (simp [*]; done)), H', ⟨Nat.le_refl _⟩, ⟨by (with_reducible repeat (first | apply Kd.R_alloc | apply Kd.R_drewN | apply Kd.R_drew)); exact HO219.out⟩, ⟨by (with_reducible repeat (first | refine blk_drewN ?_ _ | refine blk_drew ?_ | refine blk_alloc ?_ _)); exact BK216.out⟩, ⟨by repeat (first | (with_reducible first | exact HB.out | apply below_alloc | apply pw_below_drewN | apply below_drew1 | refine below_set ?_ GE216.out) | exact HB.out)⟩⟩
  case round =>
    clear H'
    try clear p2
    try clear c3
    try clear c4
    try clear hcz5_0
    try clear hcz5_1
    try clear hfz5_0
    try clear hfz5_1
    obtain ⟨x7_1, rfl, HA, HK1, HO_6, BK216, HB⟩ := hrel
    cases gk with
    | zero => exact absurd HA.out (by simp [brambleref02_Next.l0])
    | succ k1 =>
      have H := HA.out
      clear HA
      simp only [brambleref02_Next.l0] at H
      by_cases c7 : x7_1 < (t217.length : Int)
      · rw [if_pos c7] at H
        have c7b0 : decide (x7_1 < (t217.length : Int)) = true := decide_eq_true c7
        clear c7
        by_cases c8 : 0 ≤ x7_1
        · rw [if_pos c8] at H
          have c8b0 : decide (0 ≤ x7_1) = true := decide_eq_true c8
          clear c8
          by_cases c9 : ((rd_T42 t217 x7_1).f1) ≥ a1
          · rw [if_pos c9] at H
            have c9b0 : decide (a1 ≤ ((rd_T42 t217 x7_1).f1)) = true := decide_eq_true c9
            clear c9
            obtain ⟨ji10, hji10⟩ : ∃ j_ : Int, (mx a1 ((rd_T42 t217 x7_1).f0)) = j_ := ⟨_, rfl⟩
            replace H : (some (ji10, true)) = some (r1, r2) := by first | (rw [hji10] at H; exact H) | (simp only [hji10] at H ⊢; exact H)
            have hji10_ : (if a1 < ((rd_T42 t217 x7_1).f0) then ((rd_T42 t217 x7_1).f0) else a1) = ji10 := hji10
            simp only [Option.some.injEq, Prod.mk.injEq] at H
            obtain ⟨rfl, rfl⟩ := H
            obtain ⟨Ao11, co11, eo11⟩ := Kd.R_slice HO_6.out
            subst eo11
            have p220 : 0 ≤ (x7_1 : Int) := of_decide_eq_true (by first | (with_reducible assumption) | assumption)
            have q220 : x7_1 < (t217.length : Int) := of_decide_eq_true (by first | (with_reducible assumption) | assumption)
            obtain ⟨ad220, e220, hx220_0, hx220_1⟩ := at_T42 (Kd.R_reads' HO_6.out).2.2 x7_1 p220 q220
            cases e220
            replace p220 := eq_true p220
            replace q220 := eq_true q220
            have p221 : 0 ≤ (x7_1 : Int) := of_decide_eq_true (by first | (with_reducible assumption) | assumption)
            have q221 : x7_1 < (t217.length : Int) := of_decide_eq_true (by first | (with_reducible assumption) | assumption)
            obtain ⟨ad221, e221, hx221_0, hx221_1⟩ := at_T42 (Kd.R_reads' HO_6.out).2.2 x7_1 p221 q221
            obtain rfl : ad220 = ad221 := (by injection e221)
            replace p221 := eq_true p221
            replace q221 := eq_true q221
            go_wp2
            go_ret2
            exact ⟨by first | rfl | (simp [errW_none, errW_some] <;> rfl) | (simp only [← hji10]; first | rfl | (simp [errW_none, errW_some] <;> rfl)) | (simp [*, errW_none, errW_some] <;> rfl), by repeat (first | (with_reducible first | exact HB.out | apply below_alloc | apply pw_below_drewN | apply below_drew1 | refine below_set ?_ GE216.out) | exact HB.out)⟩
          · rw [if_neg c9] at H
            have c9b0 : decide (a1 ≤ ((rd_T42 t217 x7_1).f1)) = false := decide_eq_false c9
            clear c9
            have H' := Aside0.mk H
            clear H
            obtain ⟨Ao12, co12, eo12⟩ := Kd.R_slice HO_6.out
            subst eo12
            have p220 : 0 ≤ (x7_1 : Int) := of_decide_eq_true (by first | (with_reducible assumption) | assumption)
            have q220 : x7_1 < (t217.length : Int) := of_decide_eq_true (by first | (with_reducible assumption) | assumption)
            obtain ⟨ad220, e220, hx220_0, hx220_1⟩ := at_T42 (Kd.R_reads' HO_6.out).2.2 x7_1 p220 q220
            cases e220
            replace p220 := eq_true p220
            replace q220 := eq_true q220
            go_wp2
            go_roundg k1
            case measure => have := HK1.out; omega
            case rel => exact ⟨(wrap64 (x7_1 + 1)), (by first | rfl | (simp; done) | (simp [*]; done)), H', ⟨by have := HK1.out; omega⟩, ⟨by (with_reducible repeat (first | apply Kd.R_alloc | apply Kd.R_drewN | apply Kd.R_drew)); exact HO_6.out⟩, ⟨by (with_reducible repeat (first | refine blk_drewN ?_ _ | refine blk_drew ?_ | refine blk_alloc ?_ _)); exact BK216.out⟩, ⟨by repeat (first | (with_reducible first | exact HB.out | apply below_alloc | apply pw_below_drewN | apply below_drew1 | refine below_set ?_ GE216.out) | exact HB.out)⟩⟩
        · rw [if_neg c8] at H
          exact absurd H (by simp)
      · rw [if_neg c7] at H
        have c7b0 : decide (x7_1 < (t217.length : Int)) = false := decide_eq_false c7
        clear c7
        simp only [Option.some.injEq, Prod.mk.injEq] at H
        obtain ⟨rfl, rfl⟩ := H
        obtain ⟨Ao13, co13, eo13⟩ := Kd.R_slice HO_6.out
        subst eo13
        go_wp2
        go_ret2
        exact ⟨by first | rfl | (simp [errW_none, errW_some] <;> rfl) | (simp [*, errW_none, errW_some] <;> rfl), by repeat (first | (with_reducible first | exact HB.out | apply below_alloc | apply pw_below_drewN | apply below_drew1 | refine below_set ?_ GE216.out) | exact HB.out)⟩

/-! ### spans_Set_uint8_Len: function 50 -/
def spans_Set_uint8_Len.f (s0_0 : List (S29)) : Option (Int) := some (s0_0.length : Int)
set_option maxHeartbeats 8000000 in
set_option maxRecDepth 100000 in
theorem spans_Set_uint8_Len.calls (g : Nat) (s0_0 : List (S29)) (r : Int) (w0 w : World) (hI : IsS61 w0 w g s0_0) (hB : Below w0.heap.size w0 w) (h : spans_Set_uint8_Len.f s0_0 = some r) :
    Calls Try.prog 50 #[.pointer (some ⟨g, 0, none⟩)] w fun e w' => e = .returned (.int .i64 r) ∧ IsS61 w0 w' g s0_0 ∧ Below w0.heap.size w0 w' ∧ KeepBut w w' g none := by
  have HI0 := Aside0.mk hI
  have HK := Aside0.mk (KeepBut.refl w g none)
  have HL := Aside0.mk hB.size
  clear hI
  have HW0 := Aside0.mk hB.size
  have HB := Aside0.mk hB
  clear hB
  have H : (some (s0_0.length : Int)) = some r := h
  clear h
  obtain rfl := Option.some.inj H
  obtain ⟨ASz2_0, cSz2_0, HGz2, hgz2, HSz2_0⟩ := HI0.out
  have hcz2_0 := cellS61_0 HGz2
  clear HGz2 hgz2
  go_enter Try.func50, Try.ntmps50
  go_wp2
  go_ret
  exact ⟨by first | rfl | (simp [errW_none, errW_some] <;> rfl) | (simp [*, errW_none, errW_some] <;> rfl), by repeat (first | (with_reducible first | exact HI0.out | apply IsS61.alloc | apply IsS61.drewN | apply IsS61.drew) | exact HI0.out), by repeat (first | (with_reducible first | exact HB.out | apply below_alloc | apply pw_below_drewN | apply below_drew1 | refine below_set ?_ (IsS61.ge HI0.out)) | exact HB.out), by repeat (first | (with_reducible first | exact HK.out | apply KeepBut.set_ | apply keep_drewN | apply keep_drew | apply keep_alloc) | exact HK.out)⟩

-- NOT PRINTED: function 23 (bramblelaw02_plays_uint8)

-- NOT PRINTED: function 6 (bramblelaw02_SpansBytes)

end Go.Proofs.Ytbaciaolhfmfkaa.PSpansBytes
