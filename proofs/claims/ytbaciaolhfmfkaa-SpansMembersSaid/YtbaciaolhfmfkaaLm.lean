/- This text walks the law SpansMembers: true whatever the calls. -/
import Derived.Test.YtbaciaolhfmfkaaFl
import Derived.Test.YtbaciaolhfmfkaaAw
namespace Go.Proofs.Ytbaciaolhfmfkaa.Lm
open Go.RowKit Go.Proofs.YtbaciaolhfmfkaaW.PrintWords Go.Proofs.Ytbaciaolhfmfkaa.Mp Go.Proofs.Ytbaciaolhfmfkaa.Ow Go.Proofs.Ytbaciaolhfmfkaa.Sp Go.Proofs.Ytbaciaolhfmfkaa.Su8 Go.Proofs.Ytbaciaolhfmfkaa.Op Go.Proofs.Ytbaciaolhfmfkaa.Fl
set_option linter.unusedVariables false
set_option maxRecDepth 100000
theorem from_mono {mn mx : Int} {R : List Run} (h : Sp.Good mn mx R) {x y : Int} (hxy : x ≤ y) : fromI R x ≤ fromI R y := by
  refine Nat.le_of_not_lt fun hlt => ?_
  have hl := fromI_le R x
  have hr := List.getElem?_eq_getElem (l := R) (i := fromI R y) (by omega)
  have h1 := (from_iff h y hr).2 (Nat.le_refl _)
  have h2 := (from_iff h x hr).1 (by omega)
  omega
theorem facts_none {R : List Run} (h : Sp.Good tMin tMax R) {x : Int} (hr : R[fromI R x]? = none) : holdsB R x x = false ∧ meetsB R x x = false ∧ nextI R x = none := by
  have h1 : nextI R x = none := by unfold nextI; rw [hr]; rfl
  refine ⟨?_, ?_, h1⟩
  · unfold holdsB; rw [hr]; simp
  · unfold meetsB; rw [h1]
theorem facts_some {R : List Run} (h : Sp.Good tMin tMax R) {x : Int} {r : Run} (hr : R[fromI R x]? = some r) : holdsB R x x = decide (r.1 ≤ x) ∧ meetsB R x x = decide (r.1 ≤ x) ∧ nextI R x = some (max x r.1) ∧ x ≤ r.2 := by
  have h1 : nextI R x = some (max x r.1) := by unfold nextI; rw [hr]; rfl
  have h2 := (from_iff h x hr).2 (Nat.le_refl _)
  refine ⟨?_, ?_, h1, h2⟩
  · unfold holdsB; rw [hr]; simp [h2]
  · unfold meetsB; rw [h1]; simp only; congr 1; apply propext; omega
/-- What stays while the law looks. -/
structure St (w wr : World) (v sv : Value) (R : List Run) : Prop where
  set : SetAt wr w.heap.size w.heap.size sv R
  row : wr.ownsRow w.heap.size 29 2 v R.length (flat R)
  kept : Kp w wr (fun _ => False)
theorem St.stay {w wr w2 : World} {v sv : Value} {R : List Run} (h : St w wr v sv R) (k : Kp wr w2 (fun _ => False)) : St w w2 v sv R := ⟨h.set.stay k, row_kp h.row k (fun _ _ h => h), h.kept.then_ k (fun _ h => .inl h)⟩
set_option maxHeartbeats 4000000 in
theorem members_calls (A : Option Addr) (len cap : Nat) (T : Nat → Rec) (w : World) (hs : Script w A len T) (hl : len ≤ 9223372036854775807) :
    Calls Try.prog 3 #[.slice A len cap] w fun e w' => e = .returned (.bool true) ∧ Kp w w' (fun _ => False) := by
  have HF := Aside0.mk (filled_calls A len cap T w hs hl)
  clear hs
  go_enter Try.func3, Try.ntmps3
  go_wp2_with fail
  refine HF.out.mono ?_
  rintro e w1 ⟨sv, R, rfl, h1, hR, k1⟩
  have H1 := Aside0.mk h1
  have K1 := Aside0.mk k1
  clear h1 k1 HF
  go_wp2_with fail
  refine (Aw.awake_calls w1).mono ?_
  rintro e w2 ⟨rfl, k2⟩
  have H2 := Aside0.mk (H1.out.stay k2)
  have K2 := Aside0.mk (K1.out.then_ k2 (fun _ h => .inl h))
  clear k2 H1 K1
  go_wp2_with fail
  refine (runs_calls H2.out (by omega)).mono ?_
  rintro e w3 ⟨v, rfl, ho, k3⟩
  have HS : Aside0 (St w w3 v sv R) := ⟨H2.out.stay k3, row_lower ho K2.out.size, K2.out.then_ k3 (fun _ h => .inl h)⟩
  obtain ⟨a, cp, hv, _⟩ := Su8.own_slice ho
  subst hv
  have HG := Aside0.mk H2.out.good
  obtain ⟨n, hn⟩ : ∃ n, R.length = n := ⟨_, rfl⟩
  have HN := Aside0.mk hn
  rw [hn] at HS hR ⊢
  clear ho k3 H2 K2 hn
  go_wp2_with fail
  go_loopw [5, 6] (fun kv xv wr => ∃ (k x : Nat), x ≤ 256 ∧ xv = .int .i64 x ∧ kv = .int .i64 k ∧ Aside0 (k ≤ fromI R (x : Int)) ∧ Aside0 (St w wr (.slice a n cp) sv R)) (fun _ xv _ => 256 - (intOf xv).toNat)
  case atStart => exact ⟨0, 0, by omega, rfl, rfl, ⟨Nat.zero_le _⟩, HS⟩
  case round =>
    clear HS
    obtain ⟨k, x, hx, rfl, rfl, HK, HS⟩ := hrel
    by_cases hlt : x < 256
    · have hjn : fromI R (x : Int) ≤ n := by rw [← HN.out]; exact fromI_le R _
      obtain ⟨j, hj⟩ : ∃ j, fromI R (x : Int) = j := ⟨_, rfl⟩
      have HJ := Aside0.mk hj
      rw [hj] at HK hjn
      have hxi : (x : Int) < 256 := by omega
      clear hj
      go_wp2_with fail
      go_loopw [5] (fun kv wr => ∃ k : Nat, k ≤ j ∧ kv = .int .i64 k ∧ Aside0 (St w wr (.slice a n cp) sv R)) (fun kv _ => j - (intOf kv).toNat)
      case atStart => exact ⟨k, HK.out, rfl, HS⟩
      case round =>
        clear HS HK
        obtain ⟨k, hk, rfl, HS⟩ := hrel
        by_cases hkj : k < j
        · have hkl : k < R.length := by rw [HN.out]; omega
          have hr : R[k]? = some (R.getD k (0, 0)) := by rw [List.getElem?_eq_getElem hkl]; simp [hkl]
          have hno : (R.getD k (0, 0)).2 < (x : Int) := by
            rcases Int.lt_or_le (R.getD k (0, 0)).2 (x : Int) with h | h
            · exact h
            · have := (from_iff HG.out (x : Int) hr).1 h; have := HJ.out; omega
          have hb := HG.out.ok _ (List.mem_of_getElem? hr)
          have hrow := HS.out.row
          obtain ⟨g, rfl, c1, c2⟩ := run_cells hrow hr
          generalize R.getD k (0, 0) = r at *
          obtain ⟨r1, r2⟩ := r
          simp only at c1 c2 hno hb
          obtain ⟨hb1, hb2, hb3⟩ := hb
          unfold tMin at hb1
          unfold tMax at hb3
          have k0 : (0 : Int) ≤ (k : Int) := by omega
          have k1 : (k : Int) < (n : Int) := by omega
          have hb4 : 0 ≤ r2 := by omega
          clear hr hrow hkl
          go_wp2
          go_roundw
          case measure => simp [intOf]; omega
          case rel => exact ⟨k + 1, by omega, by go_num, HS⟩
        · obtain rfl : k = j := by omega
          cases hr : R[k]? with
          | none =>
            have hkn : k = n := by have := List.getElem?_eq_none_iff.1 hr; rw [HN.out] at this; omega
            obtain ⟨q1, q2, q3⟩ := facts_none HG.out (x := (x : Int)) (by rw [HJ.out]; exact hr)
            have Q1 := Aside0.mk q1
            have Q2 := Aside0.mk q2
            have Q3 := Aside0.mk q3
            subst hkn
            clear q1 q2 q3 hr
            have hx0 : (0 : Int) ≤ (x : Int) := by omega
            go_wp2_with fail
            refine (next_calls HS.out.set (x : Int) (by rw [HN.out]; omega)).mono ?_
            rw [Q3.out]
            rintro e w4 ⟨rfl, k4⟩
            have HS4 := Aside0.mk (HS.out.stay k4)
            clear k4 HS
            unfold nextA
            simp only [Option.getD_none, Option.isSome_none]
            go_wp2_with fail
            refine (has_calls HS4.out.set (x : Int) (by rw [HN.out]; omega)).mono ?_
            rw [Q1.out]
            rintro e w5 ⟨rfl, k5⟩
            have HS5 := Aside0.mk (HS4.out.stay k5)
            clear k5 HS4
            go_wp2_with fail
            refine (holds_calls HS5.out.set (x : Int) (x : Int) (by rw [HN.out]; omega)).mono ?_
            rw [Q1.out]
            rintro e w6 ⟨rfl, k6⟩
            have HS6 := Aside0.mk (HS5.out.stay k6)
            clear k6 HS5
            go_wp2_with fail
            refine (meets_calls HS6.out.set (x : Int) (x : Int) (by rw [HN.out]; omega)).mono ?_
            rw [Q2.out]
            rintro e w7 ⟨rfl, k7⟩
            have HS7 := Aside0.mk (HS6.out.stay k7)
            clear k7 HS6
            go_wp2
            go_roundw
            case measure => simp [intOf]; omega
            case rel => exact ⟨k, x + 1, by omega, by go_num, rfl, ⟨by rw [← HJ.out]; exact from_mono HG.out (by omega)⟩, HS7⟩
          | some r =>
            have hkl : k < R.length := (List.getElem?_eq_some_iff.1 hr).1
            have hrow := HS.out.row
            obtain ⟨g, rfl, c1, c2⟩ := run_cells hrow hr
            have hb := HG.out.ok _ (List.mem_of_getElem? hr)
            obtain ⟨q1, q2, q3, q4⟩ := facts_some HG.out (x := (x : Int)) (by rw [HJ.out]; exact hr)
            obtain ⟨r1, r2⟩ := r
            simp only at c1 c2 hb q1 q2 q3 q4
            have Q1 := Aside0.mk q1
            have Q2 := Aside0.mk q2
            have Q3 := Aside0.mk q3
            have HR := Aside0.mk hr
            obtain ⟨hb1, hb2, hb3⟩ := hb
            unfold tMin at hb1
            unfold tMax at hb3
            have k0 : (0 : Int) ≤ (k : Int) := by omega
            have k1 : (k : Int) < (n : Int) := by rw [HN.out] at hkl; omega
            have k2 : k < n := by omega
            have hb4 : 0 ≤ r2 := by omega
            have hb5 : r1 ≤ 255 := by omega
            clear q1 q2 q3 hr hrow hkl
            have hx0 : (0 : Int) ≤ (x : Int) := by omega
            by_cases hin : r1 ≤ (x : Int)
            · rw [decide_eq_true hin] at Q1 Q2
              rw [show max (x : Int) r1 = (x : Int) by omega] at Q3
              go_wp2_with fail
              refine (next_calls HS.out.set (x : Int) (by rw [HN.out]; omega)).mono ?_
              rw [Q3.out]
              rintro e w4 ⟨rfl, k4⟩
              have HS4 := Aside0.mk (HS.out.stay k4)
              clear k4 HS
              unfold nextA
              simp only [Option.getD_some, Option.isSome_some]
              go_wp2_with fail
              refine (has_calls HS4.out.set (x : Int) (by rw [HN.out]; omega)).mono ?_
              rw [Q1.out]
              rintro e w5 ⟨rfl, k5⟩
              have HS5 := Aside0.mk (HS4.out.stay k5)
              clear k5 HS4
              go_wp2_with fail
              refine (holds_calls HS5.out.set (x : Int) (x : Int) (by rw [HN.out]; omega)).mono ?_
              rw [Q1.out]
              rintro e w6 ⟨rfl, k6⟩
              have HS6 := Aside0.mk (HS5.out.stay k6)
              clear k6 HS5
              go_wp2_with fail
              refine (meets_calls HS6.out.set (x : Int) (x : Int) (by rw [HN.out]; omega)).mono ?_
              rw [Q2.out]
              rintro e w7 ⟨rfl, k7⟩
              have HS7 := Aside0.mk (HS6.out.stay k7)
              clear k7 HS6
              obtain ⟨g', hg', d1, d2⟩ := run_cells HS7.out.row HR.out
              cases hg'
              clear c1 c2
              simp only at d1 d2
              go_wp2
              go_roundw
              case measure => simp [intOf]; omega
              case rel => exact ⟨k, x + 1, by omega, by go_num, rfl, ⟨by rw [← HJ.out]; exact from_mono HG.out (by omega)⟩, HS7⟩
            · rw [decide_eq_false hin] at Q1 Q2
              rw [show max (x : Int) r1 = r1 by omega] at Q3
              go_wp2_with fail
              refine (next_calls HS.out.set (x : Int) (by rw [HN.out]; omega)).mono ?_
              rw [Q3.out]
              rintro e w4 ⟨rfl, k4⟩
              have HS4 := Aside0.mk (HS.out.stay k4)
              clear k4 HS
              unfold nextA
              simp only [Option.getD_some, Option.isSome_some]
              go_wp2_with fail
              refine (has_calls HS4.out.set (x : Int) (by rw [HN.out]; omega)).mono ?_
              rw [Q1.out]
              rintro e w5 ⟨rfl, k5⟩
              have HS5 := Aside0.mk (HS4.out.stay k5)
              clear k5 HS4
              go_wp2_with fail
              refine (holds_calls HS5.out.set (x : Int) (x : Int) (by rw [HN.out]; omega)).mono ?_
              rw [Q1.out]
              rintro e w6 ⟨rfl, k6⟩
              have HS6 := Aside0.mk (HS5.out.stay k6)
              clear k6 HS5
              go_wp2_with fail
              refine (meets_calls HS6.out.set (x : Int) (x : Int) (by rw [HN.out]; omega)).mono ?_
              rw [Q2.out]
              rintro e w7 ⟨rfl, k7⟩
              have HS7 := Aside0.mk (HS6.out.stay k7)
              clear k7 HS6
              obtain ⟨g', hg', d1, d2⟩ := run_cells HS7.out.row HR.out
              cases hg'
              clear c1 c2
              simp only at d1 d2
              go_wp2
              go_roundw
              case measure => simp [intOf]; omega
              case rel => exact ⟨k, x + 1, by omega, by go_num, rfl, ⟨by rw [← HJ.out]; exact from_mono HG.out (by omega)⟩, HS7⟩
    · have hge : ¬ (x : Int) < 256 := by omega
      clear HK hlt hx
      go_wp2_with fail
      go_loopw [113] (fun iv wr => ∃ i : Nat, i ≤ n ∧ iv = .int .i64 i ∧ Aside0 (St w wr (.slice a n cp) sv R)) (fun iv _ => n - (intOf iv).toNat)
      case atStart => exact ⟨0, by omega, rfl, HS⟩
      case round =>
        clear HS
        obtain ⟨i, hi, rfl, HS⟩ := hrel
        by_cases hlt : i < n
        · have hkl : i < R.length := by rw [HN.out]; omega
          have hr : R[i]? = some (R.getD i (0, 0)) := by rw [List.getElem?_eq_getElem hkl]; simp [hkl]
          have hrow := HS.out.row
          obtain ⟨g, rfl, c1, c2⟩ := run_cells hrow hr
          have hb := HG.out.ok _ (List.mem_of_getElem? hr)
          have HR := Aside0.mk hr
          generalize R.getD i (0, 0) = r at *
          obtain ⟨r1, r2⟩ := r
          simp only at c1 c2 hb
          have q1 : holdsB R r1 r2 = true := (holdsB_iff HG.out r1 r2).2 (fun y h1 h2 => ⟨(r1, r2), List.mem_of_getElem? HR.out, h1, h2⟩)
          have Q1 := Aside0.mk q1
          obtain ⟨hb1, hb2, hb3⟩ := hb
          unfold tMin at hb1
          unfold tMax at hb3
          have k0 : (0 : Int) ≤ (i : Int) := by omega
          have k1 : (i : Int) < (n : Int) := by omega
          have hb4 : 0 ≤ r2 := by omega
          have hb5 : r1 ≤ 255 := by omega
          have hb6 : ¬ r2 < r1 := by omega
          have tb : decide (r2 < r1) = false := by simp; omega
          clear hr hrow hkl q1
          obtain ⟨Y, hY⟩ : ∃ Y, wr.heap.size = Y := ⟨_, rfl⟩
          obtain ⟨Wr, hWr⟩ : ∃ Wr, wr.alloc (.cells #[.int .u8 r1, .int .u8 r2] 29) = Wr := ⟨_, rfl⟩
          have HS1 := Aside0.mk (HS.out.stay (w2 := Wr) (by rw [← hWr]; exact (Kp.refl _ _).alloc _))
          have hy : Wr.heap[Y]? = some (.cells #[.int .u8 r1, .int .u8 r2] 29 (0, 0)) := by rw [← hWr, ← hY]; exact heap_alloc_new _ _
          have y0 : Wr.cell? ⟨Y, 0, none⟩ = some (.int .u8 r1) := (blk_cell hy 0).trans rfl
          have y1 : Wr.cell? ⟨Y, 1, none⟩ = some (.int .u8 r2) := (blk_cell hy 1).trans rfl
          rcases Nat.eq_zero_or_pos i with hi0 | hi0
          · subst hi0
            have z0 := fun g : Gr Wr => g.cell y0
            have z1 := fun g : Gr Wr => g.cell y1
            go_wp2
            refine wp_region_grown (by kernel_rfl) (by kernel_rfl) ?_
            repeat (go_big_quiet_step ((go_at_call 14; exact Gr.call _ (Q1.out ▸ holds_calls (HS1.out.set.stay (Gr.kept _)) r1 r2 (by rw [HN.out]; omega)))))
            refine wpQuiet_nil ?_
            rintro _ ⟨gq, rfl⟩
            have REL := Aside0.mk (HS1.out.stay gq.kept)
            clear HS HS1 Q1 z0 z1 y0 y1 hy hY hWr c1 c2
            go_wp2
            go_roundw
            case measure => simp [intOf]; omega
            case rel => exact ⟨0 + 1, by omega, by go_num, REL⟩
          · have hpl : i - 1 < R.length := by rw [HN.out]; omega
            have hpr : R[i - 1]? = some (R.getD (i - 1) (0, 0)) := by rw [List.getElem?_eq_getElem hpl]; simp [hpl]
            have hgap := HG.out.lt (show i - 1 < i by omega) hpr HR.out
            have hpb := HG.out.ok _ (List.mem_of_getElem? hpr)
            obtain ⟨g', hg', _, e2⟩ := run_cells HS1.out.row hpr
            cases hg'
            generalize R.getD (i - 1) (0, 0) = q at *
            obtain ⟨q1, q2⟩ := q
            simp only at hgap hpb e2
            obtain ⟨hq1, hq2, hq3⟩ := hpb
            unfold tMin at hq1
            unfold tMax at hq3
            have hq4 : 0 ≤ q2 := by omega
            have p0 : (0 : Int) ≤ (i : Int) - 1 := by omega
            have p1 : (i : Int) - 1 < (n : Int) := by omega
            have p2 : (1 : Int) ≤ (i : Int) := by omega
            have z0 := fun g : Gr Wr => g.cell y0
            have z1 := fun g : Gr Wr => g.cell y1
            have z2 := fun g : Gr Wr => g.cell e2
            have t9 : decide ((i : Int) > 0) = true := by simp; omega
            have t8 : (0 : Int) < (i : Int) := by omega
            have t7 : decide (0 < i) = true := by simp; omega
            clear hpr hpl
            go_wp2
            refine wp_region_grown (by kernel_rfl) (by kernel_rfl) ?_
            repeat (go_big_quiet_step ((go_at_call 14; exact Gr.call _ (Q1.out ▸ holds_calls (HS1.out.set.stay (Gr.kept _)) r1 r2 (by rw [HN.out]; omega)))))
            refine wpQuiet_nil ?_
            rintro _ ⟨gq, rfl⟩
            have REL := Aside0.mk (HS1.out.stay gq.kept)
            clear HS HS1 Q1 z0 z1 y0 y1 hy hY hWr c1 c2
            go_wp2
            go_roundw
            case measure => simp [intOf]; omega
            case rel => exact ⟨i + 1, by omega, by go_num, REL⟩
        · obtain rfl : i = n := by omega
          go_wp2
          go_ret
          exact ⟨rfl, HS.out.kept⟩
theorem members (A : Option Addr) (len cap : Nat) (T : Nat → Rec) (w : World) (hlc : len ≤ cap) (hcm : cap ≤ maxLen)
    (hT : ∀ i, i < len → ∃ a, A = some a ∧ w.cell? (a.add (i * 4)) = some (.int .i64 (T i).kind) ∧ w.cell? (a.add (i * 4 + 1)) = some (.bool (T i).second) ∧ w.cell? (a.add (i * 4 + 2)) = some (.int .i64 (T i).lo) ∧ w.cell? (a.add (i * 4 + 3)) = some (.int .i64 (T i).hi) ∧ (Lit.int .i64 (T i).kind).wf = true ∧ (Lit.int .i64 (T i).lo).wf = true ∧ (Lit.int .i64 (T i).hi).wf = true) :
    Calls Try.prog 3 #[.slice A len cap] w fun e w' => e = .returned (.bool true) ∧ Below w.heap.size w w' := by
  unfold maxLen at hcm
  refine (members_calls A len cap T w (fun i hi => ?_) (by omega)).mono fun _ _ h => ⟨h.1, h.2.to_below⟩
  obtain ⟨a, h1, h2, h3, h4, h5, _⟩ := hT i hi
  exact ⟨a, h1, h2, h3, h4, h5⟩
end Go.Proofs.Ytbaciaolhfmfkaa.Lm
