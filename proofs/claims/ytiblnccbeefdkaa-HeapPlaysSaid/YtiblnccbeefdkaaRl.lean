/- The contract of the reference's Lower, as the print wrote it, turned. -/
import Derived.Test.YtiblnccbeefdkaaRf
namespace Go.Proofs.Ytiblnccbeefdkaa.PHeapPlays
open Go.RowKit Go.Proofs.YtiblnccbeefdkaaW.PrintWords Go.Proofs.YtiblnccbeefdkaaW.PrintLast Go.Proofs.YtiblnccbeefdkaaW.PrintMore
attribute [local go_sem] max2_int min2_int max_two min_two max_three min_three max_four min_four   -- for this text's walks alone
set_option linter.unusedVariables false
set_option linter.unusedSimpArgs false

-- NOT PRINTED: function 8 (heap_New_int_int)

-- NOT PRINTED: function 28 (heap_New_string_int)

-- NOT PRINTED: function 56 (heap_Heap_string_int_ahead)

-- NOT PRINTED: function 57 (heap_Heap_string_int_swap)

-- NOT PRINTED: function 49 (heap_Heap_string_int_up)

-- NOT PRINTED: function 30 (heap_Heap_string_int_Push)

-- NOT PRINTED: function 31 (heap_Heap_string_int_Lower)

-- NOT PRINTED: function 50 (heap_Heap_string_int_Peek)

-- NOT PRINTED: function 58 (heap_Heap_string_int_down)

-- NOT PRINTED: function 51 (heap_Heap_string_int_Drop)

-- NOT PRINTED: function 32 (heap_Heap_string_int_Pop)

-- NOT PRINTED: function 33 (heap_Heap_string_int_Len)

-- NOT PRINTED: function 10 (bramblelaw03_awake)

-- NOT PRINTED: function 18 (heap_Heap_int_int_Len)

-- NOT PRINTED: function 36 (heap_Heap_int_int_swap)

-- NOT PRINTED: function 52 (heap_Heap_int_int_ahead)

-- NOT PRINTED: function 34 (heap_Heap_int_int_up)

-- NOT PRINTED: function 11 (heap_Heap_int_int_Push)

-- NOT PRINTED: function 37 (heap_Heap_int_int_down)

-- NOT PRINTED: function 16 (heap_Heap_int_int_Drop)

-- NOT PRINTED: function 35 (heap_Heap_int_int_Peek)

-- NOT PRINTED: function 12 (heap_Heap_int_int_Pop)

-- NOT PRINTED: function 14 (heap_Heap_int_int_Lower)

set_option maxHeartbeats 8000000 in
set_option maxRecDepth 100000 in
theorem brambleref03_Lower.calls (k : Nat) (P0_ : Nat → Prop) (u9000_ : Value) (l0 : List (S73)) (a1 : Int) (a2 : Int) (r1 : List (S73)) (r2 : Bool) (w0 w : World) (hB : Below w0.heap.size w0 w) (ho0 : Kd.R k73 73 w w0.heap.size P0_ u9000_ l0) (h : brambleref03_Lower.f k l0 a1 a2 = some (r1, r2)) :
    Calls Try.prog 39 #[u9000_, .int .i64 a1, .int .i64 a2] w fun e w' => ∃ v0_ : Value, e = .returned (.tuple #[v0_, .bool r2]) ∧ Kd.R k73 73 w' w0.heap.size (fun k_ => (P0_ k_ ∨ w.heap.size ≤ k_)) v0_ r1 ∧ Below w0.heap.size w0 w' ∧ Kept w w' (fun k_ => P0_ k_) := by
  have HO0 := Aside0.mk (show Kd.R k73 73 w w0.heap.size (fun k_ => (P0_ k_ ∨ w.heap.size ≤ k_)) u9000_ l0 from Kd.R_mono ho0 (fun k_ hk => (.inl hk)))
  have HK := Aside0.mk (Kept.refl w (fun k_ => P0_ k_))
  have HW0 := Aside0.mk hB.size
  have HB := Aside0.mk hB
  clear hB
  have H : ((brambleref03_At.f k l0 a1).bind fun t112 => (if t112 < 0 then (some (l0, false)) else (if 0 ≤ t112 then (if t112 < (l0.length : Int) then (if ((rd_T73 l0 t112).f1) ≤ a2 then (some (l0, false)) else ((some (([] : List (S73)) : List (S73))).bind fun y114 => (if y114.length + l0.length < 8796093022208 then ((some (y114 ++ l0 : List (S73))).bind fun y117 => (if t112 < (y117.length : Int) then (some ((y117.set (t112 : Int).toNat (⟨(rd_T73 y117 t112).f0, a2⟩ : S73)), true)) else (none))) else (none)))) else (none)) else (none)))) = some (r1, r2) := h
  clear h
  replace H := Option.bind_eq_some_iff.mp H
  obtain ⟨t112, A40, H⟩ := H
  replace H : (if t112 < 0 then (some (l0, false)) else (if 0 ≤ t112 then (if t112 < (l0.length : Int) then (if ((rd_T73 l0 t112).f1) ≤ a2 then (some (l0, false)) else ((some (([] : List (S73)) : List (S73))).bind fun y114 => (if y114.length + l0.length < 8796093022208 then ((some (y114 ++ l0 : List (S73))).bind fun y117 => (if t112 < (y117.length : Int) then (some ((y117.set (t112 : Int).toNat (⟨(rd_T73 y117 t112).f0, a2⟩ : S73)), true)) else (none))) else (none)))) else (none)) else (none))) = some (r1, r2) := H
  have A4 := Aside0.mk A40
  clear A40
  by_cases c5 : t112 < 0
  · rw [if_pos c5] at H
    have c5b0 : decide (t112 < 0) = true := decide_eq_true c5
    clear c5
    simp only [Option.some.injEq, Prod.mk.injEq] at H
    obtain ⟨rfl, rfl⟩ := H
    obtain ⟨Ao6, co6, eo6⟩ := Kd.R_slice HO0.out
    subst eo6
    go_enter Try.func39, Try.ntmps39
    go_wp2_with (first | ((with_reducible refine gate_callee (f := 41) rfl ?_); refine goesL_ (some 12) rfl rfl Try.func41 (by kernel_rfl) rfl #[.slice Ao6 l0.length co6, .int .i64 a1] rfl (by (try simp only [List.map_toArray, List.map_cons, List.map_nil]); first | done | rfl | (simp only [List.length_drop, List.length_take]; rfl)) ?_; (with_reducible refine (brambleref03_At.calls k _ _ l0 a1 t112 _ ?side1 ?side2 A4.out).mono ?_); (case side1 => repeat (first | exact (Kd.R_reads' HO0.out).2.2 | (with_reducible refine Kd.C_alloc ?_ _) | (with_reducible refine Kd.C_drewN ?_ _) | (with_reducible refine Kd.C_drew ?_))); (case side2 => exact (Kd.R_reads' HO0.out).2.1); rintro e w' ⟨rfl, ⟨nd, rfl⟩⟩; refine ⟨_, rfl, ?_⟩))
    go_ret2
    exact ⟨_, by first | rfl | (simp [errW_none, errW_some] <;> rfl) | (simp [*, errW_none, errW_some] <;> rfl), by (with_reducible repeat (first | apply Kd.R_alloc | apply Kd.R_drewN | apply Kd.R_drew)); exact HO0.out, by repeat (first | (with_reducible first | exact HB.out | apply below_alloc | apply pw_below_drewN | apply below_drew1) | exact HB.out), by repeat (first | (with_reducible first | exact HK.out | apply Kept.alloc | apply Kept.drewN | apply Kept.drew) | exact HK.out)⟩
  · rw [if_neg c5] at H
    have c5b0 : decide (t112 < 0) = false := decide_eq_false c5
    clear c5
    by_cases c7 : 0 ≤ t112
    · rw [if_pos c7] at H
      have c7b0 : decide (0 ≤ t112) = true := decide_eq_true c7
      clear c7
      by_cases c8 : t112 < (l0.length : Int)
      · rw [if_pos c8] at H
        have c8b0 : decide (t112 < (l0.length : Int)) = true := decide_eq_true c8
        clear c8
        by_cases c9 : ((rd_T73 l0 t112).f1) ≤ a2
        · rw [if_pos c9] at H
          have c9b0 : decide (((rd_T73 l0 t112).f1) ≤ a2) = true := decide_eq_true c9
          clear c9
          simp only [Option.some.injEq, Prod.mk.injEq] at H
          obtain ⟨rfl, rfl⟩ := H
          obtain ⟨Ao10, co10, eo10⟩ := Kd.R_slice HO0.out
          subst eo10
          go_enter Try.func39, Try.ntmps39
          go_wp2_with (first | ((with_reducible refine gate_callee (f := 41) rfl ?_); refine goesL_ (some 12) rfl rfl Try.func41 (by kernel_rfl) rfl #[.slice Ao10 l0.length co10, .int .i64 a1] rfl (by (try simp only [List.map_toArray, List.map_cons, List.map_nil]); first | done | rfl | (simp only [List.length_drop, List.length_take]; rfl)) ?_; (with_reducible refine (brambleref03_At.calls k _ _ l0 a1 t112 _ ?side1 ?side2 A4.out).mono ?_); (case side1 => repeat (first | exact (Kd.R_reads' HO0.out).2.2 | (with_reducible refine Kd.C_alloc ?_ _) | (with_reducible refine Kd.C_drewN ?_ _) | (with_reducible refine Kd.C_drew ?_))); (case side2 => exact (Kd.R_reads' HO0.out).2.1); rintro e w' ⟨rfl, ⟨nd, rfl⟩⟩; refine ⟨_, rfl, ?_⟩; have p113 : 0 ≤ (t112 : Int) := of_decide_eq_true (by first | (with_reducible assumption) | assumption); have q113 : t112 < (l0.length : Int) := of_decide_eq_true (by first | (with_reducible assumption) | assumption); obtain ⟨ad113, e113, hx113_0, hx113_1⟩ := at_T73 (Kd.R_reads' HO0.out).2.2 t112 p113 q113; cases e113; replace p113 := eq_true p113; replace q113 := eq_true q113))
          go_ret2
          exact ⟨_, by first | rfl | (simp [errW_none, errW_some] <;> rfl) | (simp [*, errW_none, errW_some] <;> rfl), by (with_reducible repeat (first | apply Kd.R_alloc | apply Kd.R_drewN | apply Kd.R_drew)); exact HO0.out, by repeat (first | (with_reducible first | exact HB.out | apply below_alloc | apply pw_below_drewN | apply below_drew1) | exact HB.out), by repeat (first | (with_reducible first | exact HK.out | apply Kept.alloc | apply Kept.drewN | apply Kept.drew) | exact HK.out)⟩
        · rw [if_neg c9] at H
          have c9b0 : decide (((rd_T73 l0 t112).f1) ≤ a2) = false := decide_eq_false c9
          clear c9
          obtain ⟨y114, hy114⟩ : ∃ y_ : List (S73), y_ = (([] : List (S73))) := ⟨_, rfl⟩
          replace H : (if y114.length + l0.length < 8796093022208 then ((some (y114 ++ l0 : List (S73))).bind fun y117 => (if t112 < (y117.length : Int) then (some ((y117.set (t112 : Int).toNat (⟨(rd_T73 y117 t112).f0, a2⟩ : S73)), true)) else (none))) else (none)) = some (r1, r2) := by first | (rw [hy114]; with_reducible exact H) | (have H2_ := (Option.bind_some _ _).symm.trans H; rw [hy114]; with_reducible exact H2_) | (have H2_ := (Option.bind_some _ _).symm.trans H; with_reducible exact H2_) | with_reducible exact H | (rw [hy114]; exact H) | exact H
          have Ny114 := Aside0.mk hy114
          clear hy114
          by_cases c11 : y114.length + l0.length < 8796093022208
          · rw [if_pos c11] at H
            have LMc11 := Aside0.mk c11
            clear c11
            obtain ⟨y117, hy117⟩ : ∃ y_ : List (S73), y_ = (y114 ++ l0) := ⟨_, rfl⟩
            replace H : (if t112 < (y117.length : Int) then (some ((y117.set (t112 : Int).toNat (⟨(rd_T73 y117 t112).f0, a2⟩ : S73)), true)) else (none)) = some (r1, r2) := by first | (rw [hy117]; with_reducible exact H) | (have H2_ := (Option.bind_some _ _).symm.trans H; rw [hy117]; with_reducible exact H2_) | (have H2_ := (Option.bind_some _ _).symm.trans H; with_reducible exact H2_) | with_reducible exact H | (rw [hy117]; exact H) | exact H
            have Ny117 := Aside0.mk hy117
            clear hy117
            by_cases c12 : t112 < (y117.length : Int)
            · rw [if_pos c12] at H
              have c12b0 : decide (t112 < (y117.length : Int)) = true := decide_eq_true c12
              clear c12
              obtain ⟨y120, hy120⟩ : ∃ y_ : List (S73), y_ = (y117.set (t112 : Int).toNat (⟨(rd_T73 y117 t112).f0, a2⟩ : S73)) := ⟨_, rfl⟩
              replace H : (some (y120, true)) = some (r1, r2) := by first | (rw [hy120]; with_reducible exact H) | (have H2_ := (Option.bind_some _ _).symm.trans H; rw [hy120]; with_reducible exact H2_) | (have H2_ := (Option.bind_some _ _).symm.trans H; with_reducible exact H2_) | with_reducible exact H | (rw [hy120]; exact H) | exact H
              have Ny120 := Aside0.mk hy120
              clear hy120
              simp only [Option.some.injEq, Prod.mk.injEq] at H
              obtain ⟨rfl, rfl⟩ := H
              obtain ⟨Ao14, co14, eo14⟩ := Kd.R_slice HO0.out
              subst eo14
              go_enter Try.func39, Try.ntmps39
              go_wp2_with (first | ((with_reducible refine gate_callee (f := 41) rfl ?_); refine goesL_ (some 12) rfl rfl Try.func41 (by kernel_rfl) rfl #[.slice Ao14 l0.length co14, .int .i64 a1] rfl (by (try simp only [List.map_toArray, List.map_cons, List.map_nil]); first | done | rfl | (simp only [List.length_drop, List.length_take]; rfl)) ?_; (with_reducible refine (brambleref03_At.calls k _ _ l0 a1 t112 _ ?side1 ?side2 A4.out).mono ?_); (case side1 => repeat (first | exact (Kd.R_reads' HO0.out).2.2 | (with_reducible refine Kd.C_alloc ?_ _) | (with_reducible refine Kd.C_drewN ?_ _) | (with_reducible refine Kd.C_drew ?_))); (case side2 => exact (Kd.R_reads' HO0.out).2.1); rintro e w' ⟨rfl, ⟨nd, rfl⟩⟩; refine ⟨_, rfl, ?_⟩; have p113 : 0 ≤ (t112 : Int) := of_decide_eq_true (by first | (with_reducible assumption) | assumption); have q113 : t112 < (l0.length : Int) := of_decide_eq_true (by first | (with_reducible assumption) | assumption); obtain ⟨ad113, e113, hx113_0, hx113_1⟩ := at_T73 (Kd.R_reads' HO0.out).2.2 t112 p113 q113; cases e113; replace p113 := eq_true p113; replace q113 := eq_true q113) | ((with_reducible refine gate_dst (N := 25) rfl ?_); refine Kd.R_lit k73 _ 73 ?hg (N := 25) ?hd (xs := ([] : List (S73))) (inner := []) (ok := fun _ => True) (okp := fun _ => True) ?hr ?hp (fun _ hk => hk) trivial (Below.refl _ _) (Nat.le_refl _) (by simp) ?_; (case hd => rfl); (case hg => rfl); (case hr => first | (go_simp; done) | (go_simp; rfl)); (case hp => exact (Reps.none _ _)); intro v115 w15 ho16 hb hg_ hnew_; clear hg_ hnew_; (first | rw [← Ny114.out] at ho16 | (simp only [Int.reduceToNat] at ho16; rw [← Ny114.out] at ho16)); have n0_ := Aside0.mk (Kd.R_elder' (by (with_reducible repeat (first | apply Kd.R_alloc | apply Kd.R_drewN | apply Kd.R_drew)); exact HO0.out) (Kd.R_base ho16) hb); have n1_ := Aside0.mk (Kd.R_lower (Kd.R_new' (Kd.R_newM (M := fun k_ => (P0_ k_ ∨ w.heap.size ≤ k_)) ho16 (by first | exact HK.out.1 | exact (show Kept w _ (fun k_ => P0_ k_) from by repeat (first | (with_reducible first | exact HK.out | apply Kept.alloc | apply Kept.drewN | apply Kept.drew) | exact HK.out)).1) (fun k_ h_ => .inr h_)) (Kd.R_lt (by (with_reducible repeat (first | apply Kd.R_alloc | apply Kd.R_drewN | apply Kd.R_drew)); exact HO0.out))) (below_size (by repeat (first | (with_reducible first | exact HB.out | apply below_alloc | apply pw_below_drewN | apply below_drew1) | exact HB.out)))); have n2_ := Aside0.mk (Kept.below (S := (fun k_ => P0_ k_)) (by repeat (first | (with_reducible first | exact HK.out | apply Kept.alloc | apply Kept.drewN | apply Kept.drew) | exact HK.out)) hb); have n3_ := Aside0.mk (below_step (by repeat (first | (with_reducible first | exact HB.out | apply below_alloc | apply pw_below_drewN | apply below_drew1) | exact HB.out)) hb); clear HO0; clear HK; clear HB; have HO0 := n0_; have HO116 := n1_; have HK := n2_; have HB := n3_; clear n0_ n1_ n2_ n3_; clear hb ho16) | ((with_reducible refine gate_builtin (b := .append) (xs := #[.tmp 25, .tmp 26]) rfl ?_); at_builtin; refine Kd.R_append_rows k73 (w0 := w0) w0.heap.size rfl (.tmp 25) (.tmp 26) 41 73 (.agg #[(.int .i64 0), (.int .i64 0)]) 16 rfl Try.underlying41 info73 rfl (by decide) (by omega) v115 y114 l0 _ _ _ (fun k_ => (P0_ k_ ∨ w.heap.size ≤ k_) ∧ some k_ ≠ (.slice (some ad113) l0.length co14 : Value).ownBlock) (fun _ => False) rfl rfl ?aO ?aR (fun _ _ h => h) (fun _ h => h.elim) ?aF ?aB ?aS ?aL ?_; (case aR => repeat (first | exact (Kd.R_reads' HO0.out).2.2 | (with_reducible refine Kd.C_alloc ?_ _) | (with_reducible refine Kd.C_drewN ?_ _) | (with_reducible refine Kd.C_drew ?_))); (case aB => exact (by repeat (first | (with_reducible first | exact HB.out | apply below_alloc | apply pw_below_drewN | apply below_drew1) | exact HB.out))); (case aF => exact (fun k_ hk => ⟨(.inr (Nat.le_trans (by first | exact HK.out.1 | exact (show Kept w _ (fun k_ => P0_ k_) from by repeat (first | (with_reducible first | exact HK.out | apply Kept.alloc | apply Kept.drewN | apply Kept.drew) | exact HK.out)).1) hk)), Kd.fresh' (Kd.R_lt (by (with_reducible repeat (first | apply Kd.R_alloc | apply Kd.R_drewN | apply Kd.R_drew)); exact HO0.out)) k_ hk⟩)); (case aO => exact (by (with_reducible repeat (first | apply Kd.R_alloc | apply Kd.R_drewN | apply Kd.R_drew)); exact Kd.R_mono HO116.out (fun _ hk => ⟨hk.1.1, hk.2⟩))); (case aS => exact (below_size (by repeat (first | (with_reducible first | exact HB.out | apply below_alloc | apply pw_below_drewN | apply below_drew1) | exact HB.out)))); (case aL => have := LMc11.out; omega); intro v118 w17 ho hb hg hat; rw [← Ny117.out] at ho; have n0_ := Aside0.mk (Kd.R_after (ok := (fun k_ => (P0_ k_ ∨ w.heap.size ≤ k_))) (by (with_reducible repeat (first | apply Kd.R_alloc | apply Kd.R_drewN | apply Kd.R_drew)); exact HO0.out) hg hat); have n1_ := Aside0.mk (hb); have n2_ := Aside0.mk (Kept.of_grown (S := (fun k_ => P0_ k_)) hg (by repeat (first | (with_reducible first | exact HK.out | apply Kept.alloc | apply Kept.drewN | apply Kept.drew) | exact HK.out)) (fun k_ e_ => (HO116.out.1 k_ e_).1.1)); have n3_ := Aside0.mk (ho); clear HO0; clear HB; clear HK; clear HO116; have HO0 := n0_; have HB := n1_; have HK := n2_; have HO119 := n3_; clear n0_ n1_ n2_ n3_; clear ho hb hg hat; have p13 : 0 ≤ (t112 : Int) := of_decide_eq_true (by first | (with_reducible assumption) | assumption); have q13 : (t112 : Int) < ((y117.length : Int) : Int) := of_decide_eq_true (by first | (with_reducible assumption) | assumption); obtain ⟨go13, co13, eo13, gb13, gl13, cl13, HG13⟩ := Kd.R_form HO119.out (by omega); (first | cases eo13 | (injection eo13 with ea_ en_ ec_; (first | subst ea_ | (injection ea_ with ea_; subst ea_)); subst ec_; clear en_)); have GB13 := Aside0.mk gb13; have GG13 := Aside0.mk HG13; clear gb13 gl13 HG13; have HMgo13 := Aside0.mk (show (P0_ go13 ∨ w.heap.size ≤ go13) from (HO119.out.1 _ rfl).1); obtain ⟨ce13, hcl13, hM13, hcc13, hfr13⟩ := Kd.R_elem HO119.out z73 (t112 : Int) p13 q13; obtain rfl := k73_openM hM13; have hx13_0 : w17.cell? ⟨go13, (t112 : Int).toNat * 2, none⟩ = some (.int .i64 ((rd_T73 y117 t112).f0)) := hcc13 0 _ rfl; have hx13_1 : w17.cell? ⟨go13, (t112 : Int).toNat * 2 + 1, none⟩ = some (.int .i64 ((rd_T73 y117 t112).f1)) := hcc13 1 _ rfl; have hf13_0 : w17.frozen? ⟨go13, (t112 : Int).toNat * 2, none⟩ = false := hfr13 0; have hf13_1 : w17.frozen? ⟨go13, (t112 : Int).toNat * 2 + 1, none⟩ = false := hfr13 1; clear hcl13 hcc13 hfr13 hM13; replace p13 := eq_true p13; replace q13 := eq_true q13; have HX18 := Aside0.mk (show Kd.R k73 73 w17 w0.heap.size (fun k_ => (P0_ k_ ∨ w.heap.size ≤ k_) ∧ some k_ ≠ (.slice (some ad113) l0.length co14 : Value).ownBlock) (.slice (some ⟨go13, 0, none⟩) y117.length co13) y117 from (by (with_reducible repeat (first | apply Kd.R_alloc | apply Kd.R_drewN | apply Kd.R_drew)); exact HO119.out)); obtain ⟨ce18, hcl18, hM18, hcc18, hfr18⟩ := Kd.R_elem HX18.out z73 (t112 : Int) (of_decide_eq_true (by first | (with_reducible assumption) | assumption)) (by have h_ : (t112 : Int) < ((y117.length : Int) : Int) := of_decide_eq_true (by first | (with_reducible assumption) | assumption); first | exact h_ | (have e_ := (Kd.R_reads' HO119.out).1; omega) | simpa using h_); obtain rfl := k73_openM hM18; have HP18 := Kd.R_seg HX18.out (t112 : Int) (of_decide_eq_true (by first | (with_reducible assumption) | assumption)) (by have h_ : (t112 : Int) < ((y117.length : Int) : Int) := of_decide_eq_true (by first | (with_reducible assumption) | assumption); first | exact h_ | (have e_ := (Kd.R_reads' HO119.out).1; omega) | simpa using h_) (seg := [.int .i64 a2]) (j := 1) hcl18 hcc18 (show 2 ≤ 2 from by decide) (x' := (⟨(rd_T73 y117 t112).f0, a2⟩ : S73)) (k73_mkM _ _ _ (⟨(rd_T73 y117 t112).f0, a2⟩ : S73) ) (fun _ hk => hk); have hx18_1 := hcc18 1 _ rfl; (try simp only [show (k73).sz = 2 from rfl, Nat.mul_one, Nat.add_zero] at hx18_1); have hf18_1 := hfr18 1; (try simp only [show (k73).sz = 2 from rfl, Nat.mul_one, Nat.add_zero] at hf18_1); clear hcl18 hcc18 hfr18 hM18) | ((with_reducible refine gate_store (t := 3) (p := 32) rfl ?_); refine store_event (t := 3) (p := 32) (v := ?vo_w19) (w1 := (w17.setCell ⟨go13, (t112 : Int).toNat * 2 + 1, none⟩ (.int .i64 a2))) ?hg ?ho ?hn ?hr ?_; (case ho => rfl); (case hg => rfl); (case hn => rfl); (case hr => first | (go_simp; done) | (go_simp; rfl)); intro w19 hw; have hg : w17.grownBy w19 (some go13) := (by rw [hw]; exact HP18.2); have hp_ : Kd.R k73 73 w19 w0.heap.size (fun k_ => (P0_ k_ ∨ w.heap.size ≤ k_) ∧ some k_ ≠ (.slice (some ad113) l0.length co14 : Value).ownBlock) (.slice (some ⟨go13, 0, none⟩) y117.length co13) y120 := (by rw [hw, Ny120.out]; exact HP18.1); clear HP18; have n0_ := Aside0.mk (Kd.R_after (v := (.slice (some ⟨go13, 0, none⟩) y117.length co13)) (v1 := (.slice (some ⟨go13, 0, none⟩) y117.length co13)) (ok := (fun k_ => (P0_ k_ ∨ w.heap.size ≤ k_))) (by (with_reducible repeat (first | apply Kd.R_alloc | apply Kd.R_drewN | apply Kd.R_drew)); exact HO0.out) hg (.inl rfl)); have n1_ := Aside0.mk (hp_); have n2_ := Aside0.mk ((by rw [hw]; exact below_set (HB.out) GB13.out : Below w0.heap.size w0 w19)); have n3_ := Aside0.mk (Kept.of_grown (S := (fun k_ => P0_ k_)) hg (by repeat (first | (with_reducible first | exact HK.out | apply Kept.alloc | apply Kept.drewN | apply Kept.drew) | exact HK.out)) (fun k_ e_ => (HO119.out.1 k_ e_).1)); clear HO0; clear HO119; clear HB; clear HK; have HO0 := n0_; have HO119 := n1_; have HB := n2_; have HK := n3_; clear n0_ n1_ n2_ n3_; clear hg hw hp_))
              go_ret2
              exact ⟨_, by first | rfl | (simp [errW_none, errW_some] <;> rfl) | (simp [*, errW_none, errW_some] <;> rfl), by (with_reducible repeat (first | apply Kd.R_alloc | apply Kd.R_drewN | apply Kd.R_drew)); exact Kd.R_mono HO119.out (fun _ hk => hk.1), by repeat (first | (with_reducible first | exact HB.out | apply below_alloc | apply pw_below_drewN | apply below_drew1) | exact HB.out), by repeat (first | (with_reducible first | exact HK.out | apply Kept.alloc | apply Kept.drewN | apply Kept.drew) | exact HK.out)⟩
            · rw [if_neg c12] at H
              exact absurd H (by simp)
          · rw [if_neg c11] at H
            exact absurd H (by simp)
      · rw [if_neg c8] at H
        exact absurd H (by simp)
    · rw [if_neg c7] at H
      exact absurd H (by simp)

-- NOT PRINTED: function 40 (heap_Heap_int_int_Get)

end Go.Proofs.Ytiblnccbeefdkaa.PHeapPlays
