/- This text walks the program's sets of whole numbers (int): taking numbers out, joining, lists of runs, clones. -/
import Derived.Test.YtbaciaolhfmfkaaSwi64
namespace Go.Proofs.Ytbaciaolhfmfkaa.Si64
open Go.RowKit Go.Proofs.YtbaciaolhfmfkaaW.PrintWords Go.Proofs.Ytbaciaolhfmfkaa.Mp Go.Proofs.Ytbaciaolhfmfkaa.Ow Go.Proofs.Ytbaciaolhfmfkaa.Sp
set_option linter.unusedVariables false
/-- What lies in memory while numbers are taken out. -/
structure CutW (w wr : World) (ov : Value) (out : List Run) : Prop where
  row : wr.ownsRow w.heap.size 91 2 ov out.length (flat out)
  kept : Kp w wr (fun _ => False)
section
variable {w wr w2 : World} {ov v : Value} {out : List Run} {r1 r2 : Int} {o : Obj}
theorem CutW.stay (h : CutW w wr ov out) (K : Kp wr w2 (fun _ => False)) : CutW w w2 ov out := ⟨row_kp h.row K (fun _ _ h => h), h.kept.then_ K (fun _ h => h.elim)⟩
theorem CutW.more (h : CutW w wr ov out) (own : w2.ownsRow w.heap.size 91 2 v (out.length + 1) (flat out ++ [.int .i64 r1, .int .i64 r2])) (hg : (wr.alloc o).grownBy w2 ov.ownBlock) : CutW w w2 v (out ++ [(r1, r2)]) := by
  refine ⟨?_, (h.kept.alloc o).then_ (kp_grown hg) (fun q hq => .inr (row_blk h.row hq).1)⟩
  have : flat (out ++ [(r1, r2)]) = flat out ++ [.int .i64 r1, .int .i64 r2] := by rw [flat_app]; rfl
  rw [this]
  simpa using own
end
theorem cut_len (R : List Run) (lo hi : Int) : (cutR R lo hi).length ≤ 2 * R.length := by
  induction R with
  | nil => simp [cutR]
  | cons r R ih =>
    rw [cutR_cons, List.length_append, List.length_cons]
    have : (cut1 lo hi r).length ≤ 2 := by
      unfold cut1
      split
      · simp
      · split <;> split <;> simp
    omega
set_option maxHeartbeats 2000000 in
theorem cut_new {w : World} {base p : Nat} {sv : Value} {R : List Run} (h : SetAt w base p sv R) (lo hi : Int) (hlo : tMin ≤ lo) (hhi : hi ≤ tMax) (hl : R.length ≤ 2199023255552) (hb : base ≤ w.heap.size) (hB : meetsB R lo hi = true) :
    Calls Try.prog 31 #[.pointer (some ⟨p, 0, none⟩), .int .i64 lo, .int .i64 hi] w fun e w' => e = .returned (.bool true) ∧ ∃ sv', SetAt w' base p sv' (cutR R lo hi) ∧ Kp w w' (fun k => k = p) ∧ (∀ q, sv'.ownBlock = some q → w.heap.size ≤ q) := by
  have hlh : lo ≤ hi := by
    obtain ⟨y, h1, h2, _⟩ := (meetsB_iff h.good lo hi).1 hB
    omega
  have HGOOD := Aside0.mk (cutR_good hlh h.good).1
  have H0 := Aside0.mk (meets_calls h lo hi (by omega))
  rw [hB] at H0
  have H := Aside0.mk h
  obtain ⟨a, cap, hsv, _⟩ := own_slice h.own
  subst hsv
  have hpw : p < w.heap.size := blk_lt h.head
  have HLO := Aside0.mk hlo
  have HHI := Aside0.mk hhi
  have HLH := Aside0.mk hlh
  obtain ⟨i0, hi0, hz0, hz1, hz2⟩ := info_parts infoR
  have HZ := Aside0.mk hi0
  have HZ0 := Aside0.mk hz0
  have HZ1 := Aside0.mk hz1
  have HZ2 := Aside0.mk hz2
  have HB := Aside0.mk hb
  clear h hB hlo hhi hlh hi0 hz0 hz1 hz2 hb
  go_enter Try.func31, Try.ntmps31
  go_wp2_with fail
  refine H0.out.mono ?_
  rintro e w1 ⟨rfl, k1⟩
  obtain ⟨n, hn⟩ : ∃ n, R.length = n := ⟨_, rfl⟩
  have HN := Aside0.mk hn
  have p1 : w1.cell? ⟨p, 0, none⟩ = some (.slice a n cap) := (blk_cell (H.out.stay k1).head 0).trans (by rw [hn]; rfl)
  rw [hn] at hl
  have HA : Aside0 (CutW w w1 (.slice none 0 0) []) := ⟨⟨rfl, .inl ⟨rfl, rfl⟩⟩, k1⟩
  clear k1 H0 hn
  go_wp2_with fail
  clear p1
  go_loopw [7, 20] (fun ov iv wr => ∃ (k : Nat) (out : List Run), k ≤ n ∧ iv = .int .i64 k ∧ Aside0 (cutR (R.take k) lo hi = out) ∧ Aside0 (CutW w wr ov out)) (fun _ iv _ => n - (intOf iv).toNat)
  case atStart => exact ⟨0, [], by omega, rfl, ⟨rfl⟩, HA⟩
  case round =>
    clear HA
    obtain ⟨k, out, hk, rfl, HF, HA⟩ := hrel
    have hol := cut_len (R.take k) lo hi
    rw [HF.out, List.length_take] at hol
    have hol2 : out.length ≤ 4398046511104 := by omega
    clear hol
    by_cases hlt : k < n
    · have hr : R[k]? = some (R.getD k (0, 0)) := by rw [List.getElem?_eq_getElem (by rw [HN.out]; exact hlt)]; simp [HN.out, hlt]
      obtain ⟨g, rfl, c1, c2⟩ := run_cells (H.out.own) hr
      have c1 := cell_kp c1 HA.out.kept (fun h => h)
      have c2 := cell_kp c2 HA.out.kept (fun h => h)
      have hst : cutR (R.take (k + 1)) lo hi = out ++ cut1 lo hi (R.getD k (0, 0)) := by
        rw [List.take_succ_eq_append_getElem (by rw [HN.out]; exact hlt)]
        unfold cutR
        rw [List.flatMap_append]
        have := HF.out
        unfold cutR at this
        rw [this]
        simp [HN.out, hlt]
      have hrk := H.out.good.ok _ (List.mem_of_getElem? hr)
      generalize R.getD k (0, 0) = r at *
      obtain ⟨r1, r2⟩ := r
      simp only at c1 c2 hrk
      have HST := Aside0.mk hst
      have HRK := Aside0.mk hrk
      clear hr hst hrk HF
      have k0 : (0 : Int) ≤ (k : Int) := by omega
      have k1 : (k : Int) < (n : Int) := by omega
      obtain ⟨Y, hY⟩ : ∃ Y, wr.heap.size = Y := ⟨_, rfl⟩
      obtain ⟨Wr, hWr⟩ : ∃ Wr, wr.alloc (.cells #[.int .i64 r1, .int .i64 r2] 91) = Wr := ⟨_, rfl⟩
      have kr : Kp wr Wr (fun _ => False) := by rw [← hWr]; exact (Kp.refl _ _).alloc _
      have HY : Aside0 (Wr.heap[Y]? = some (.cells #[.int .i64 r1, .int .i64 r2] 91 (0, 0))) := ⟨by rw [← hWr, ← hY]; exact heap_alloc_new _ _⟩
      have HA1 := Aside0.mk (HA.out.stay kr)
      have hyc0 : Wr.cell? ⟨Y, 0, none⟩ = some (.int .i64 r1) := (blk_cell HY.out 0).trans rfl
      have hyc1 : Wr.cell? ⟨Y, 1, none⟩ = some (.int .i64 r2) := (blk_cell HY.out 1).trans rfl
      have hbw : w.heap.size ≤ Wr.heap.size := HA1.out.kept.size
      have HROW : Aside0 (wr.ownsRow w.heap.size 91 2 u7 out.length (flat out)) := ⟨HA.out.row⟩
      clear kr HA
      by_cases t1 : r2 < lo ∨ hi < r1
      · have HE : Aside0 (cut1 lo hi (r1, r2) = [(r1, r2)]) := ⟨by unfold cut1; rw [if_pos t1]⟩
        rcases t1 with t1 | t1
        · go_wp2_with (at_builtin; refine wpList_append_at rfl (.tmp 34) (.tmp 36) 88 rfl w.heap.size 91 i0 _ 2 16 Try.underlying88 HZ.out HZ0.out HZ1.out HZ2.out rfl (by decide) u7 (out.length) (flat out) rfl (row_kp HA1.out.row ((Kp.refl _ _).alloc _) (fun _ _ h => h)) ⟨Wr.heap.size, 0, none⟩ 1 1 [.int .i64 r1, .int .i64 r2] rfl rfl (fun j u h => newrow0 Wr 91 _ j u h) (by intro u hu; simp only [List.mem_cons, List.not_mem_nil, or_false] at hu; rcases hu with rfl | rfl <;> rfl) (by unfold maxLen; omega) (by omega) (by simp; omega) ?_; intro v' w' hown hgrow hloc; have HO := Aside0.mk hown; have HG := Aside0.mk hgrow; clear hown hgrow hloc)
          have REL := Aside0.mk (HA1.out.more HO.out HG.out)
          clear HO HG HA1 HY hyc0 hyc1 c1 c2 hY hWr
          go_roundw
          case measure => simp [intOf]; omega
          case rel => exact ⟨k + 1, out ++ [(r1, r2)], by omega, by go_num, ⟨HST.out.trans (by rw [HE.out])⟩, REL⟩
        · have t0 : ¬ r2 < lo ∨ r2 < lo := by omega
          rcases t0 with t0 | t0
          · go_wp2_with (at_builtin; refine wpList_append_at rfl (.tmp 34) (.tmp 36) 88 rfl w.heap.size 91 i0 _ 2 16 Try.underlying88 HZ.out HZ0.out HZ1.out HZ2.out rfl (by decide) u7 (out.length) (flat out) rfl (row_kp HA1.out.row ((Kp.refl _ _).alloc _) (fun _ _ h => h)) ⟨Wr.heap.size, 0, none⟩ 1 1 [.int .i64 r1, .int .i64 r2] rfl rfl (fun j u h => newrow0 Wr 91 _ j u h) (by intro u hu; simp only [List.mem_cons, List.not_mem_nil, or_false] at hu; rcases hu with rfl | rfl <;> rfl) (by unfold maxLen; omega) (by omega) (by simp; omega) ?_; intro v' w' hown hgrow hloc; have HO := Aside0.mk hown; have HG := Aside0.mk hgrow; clear hown hgrow hloc)
            have REL := Aside0.mk (HA1.out.more HO.out HG.out)
            clear HO HG HA1 HY hyc0 hyc1 c1 c2 hY hWr
            go_roundw
            case measure => simp [intOf]; omega
            case rel => exact ⟨k + 1, out ++ [(r1, r2)], by omega, by go_num, ⟨HST.out.trans (by rw [HE.out])⟩, REL⟩
          · go_wp2_with (at_builtin; refine wpList_append_at rfl (.tmp 34) (.tmp 36) 88 rfl w.heap.size 91 i0 _ 2 16 Try.underlying88 HZ.out HZ0.out HZ1.out HZ2.out rfl (by decide) u7 (out.length) (flat out) rfl (row_kp HA1.out.row ((Kp.refl _ _).alloc _) (fun _ _ h => h)) ⟨Wr.heap.size, 0, none⟩ 1 1 [.int .i64 r1, .int .i64 r2] rfl rfl (fun j u h => newrow0 Wr 91 _ j u h) (by intro u hu; simp only [List.mem_cons, List.not_mem_nil, or_false] at hu; rcases hu with rfl | rfl <;> rfl) (by unfold maxLen; omega) (by omega) (by simp; omega) ?_; intro v' w' hown hgrow hloc; have HO := Aside0.mk hown; have HG := Aside0.mk hgrow; clear hown hgrow hloc)
            have REL := Aside0.mk (HA1.out.more HO.out HG.out)
            clear HO HG HA1 HY hyc0 hyc1 c1 c2 hY hWr
            go_roundw
            case measure => simp [intOf]; omega
            case rel => exact ⟨k + 1, out ++ [(r1, r2)], by omega, by go_num, ⟨HST.out.trans (by rw [HE.out])⟩, REL⟩
      · have t2 : ¬ r2 < lo := by omega
        have t3 : ¬ hi < r1 := by omega
        have q1 : -9223372036854775808 ≤ r1 := by have := HRK.out.1; unfold tMin at this; omega
        have q2 : r2 ≤ 9223372036854775807 := by have := HRK.out.2.2; unfold tMax at this; omega
        have q3 : r1 ≤ r2 := HRK.out.2.1
        have q4 : lo ≤ hi := HLH.out
        have HYW : Aside0 (∀ o w', (Wr.alloc o).grownBy w' u7.ownBlock → ∀ (j : Nat) (u : Value), Wr.cell? ⟨Y, j, none⟩ = some u → w'.cell? ⟨Y, j, none⟩ = some u) := ⟨fun o w' hg j u hu => by
          have h1 := cell_alloc (o := o) hu
          refine cell_kp h1 (kp_grown hg) (fun e => ?_)
          have h4 := (row_blk (HROW.out) e).2
          simp only at h4
          omega⟩
        have HS : Aside0 (∀ o w', (Wr.alloc o).grownBy w' u7.ownBlock → w.heap.size ≤ w'.heap.size) := ⟨fun o w' hg => by have := hg.size; simp at this; omega⟩
        have HE : Aside0 (cut1 lo hi (r1, r2) = (if r1 < lo then [(r1, lo - 1)] else []) ++ (if hi < r2 then [(hi + 1, r2)] else [])) := ⟨by unfold cut1; rw [if_neg t1]⟩
        clear t1
        by_cases t4 : r1 < lo
        · by_cases t5 : hi < r2
          · rw [if_pos t4, if_pos t5] at HE
            go_wp2_with (first | (at_builtin; refine wpList_append_at rfl (.tmp 42) (.tmp 48) 88 rfl w.heap.size 91 i0 _ 2 16 Try.underlying88 HZ.out HZ0.out HZ1.out HZ2.out rfl (by decide) u7 (out.length) (flat out) rfl (row_kp HA1.out.row ((Kp.refl _ _).alloc _) (fun _ _ h => h)) ⟨Wr.heap.size, 0, none⟩ 1 1 [.int .i64 r1, .int .i64 (lo - 1)] rfl rfl (fun j u h => newrow0 Wr 91 _ j u h) (by intro u hu; simp only [List.mem_cons, List.not_mem_nil, or_false] at hu; rcases hu with rfl | rfl <;> rfl) (by unfold maxLen; omega) (by omega) (by simp; omega) ?_; intro v' w' hown hgrow hloc; have HO := Aside0.mk hown; have HG := Aside0.mk hgrow; have hy0 : w'.cell? ⟨Y, 0, none⟩ = some (.int .i64 r1) := HYW.out _ _ hgrow 0 _ hyc0; have hy1 : w'.cell? ⟨Y, 1, none⟩ = some (.int .i64 r2) := HYW.out _ _ hgrow 1 _ hyc1; clear hown hgrow hloc) | (at_builtin; refine wpList_append_at rfl (.tmp 54) (.tmp 60) 88 rfl w.heap.size 91 i0 _ 2 16 Try.underlying88 HZ.out HZ0.out HZ1.out HZ2.out rfl (by decide) v' (out.length + 1) (flat out ++ [.int .i64 r1, .int .i64 (lo - 1)]) rfl (row_kp HO.out ((Kp.refl _ _).alloc _) (fun _ _ h => h)) ⟨w'.heap.size, 0, none⟩ 1 1 [.int .i64 (hi + 1), .int .i64 r2] rfl rfl (fun j u h => newrow0 w' 91 _ j u h) (by intro u hu; simp only [List.mem_cons, List.not_mem_nil, or_false] at hu; rcases hu with rfl | rfl <;> rfl) (by unfold maxLen; omega) (by omega) (by have := HS.out _ _ HG.out; simp; omega) ?_; intro v'' w'' hown2 hgrow2 hloc2; have HO2 := Aside0.mk hown2; have HG2 := Aside0.mk hgrow2; clear hown2 hgrow2 hloc2))
            have REL := Aside0.mk ((HA1.out.more HO.out HG.out).more (by simpa [flat_app, flat_cons, flat_nil] using HO2.out) HG2.out)
            clear HO HG HO2 HG2 HA1 HY hyc0 hyc1 c1 c2 hY hWr HYW HS
            go_roundw
            case measure => simp [intOf]; omega
            case rel => exact ⟨k + 1, out ++ [(r1, lo - 1)] ++ [(hi + 1, r2)], by omega, by go_num, ⟨HST.out.trans (by rw [HE.out]; simp)⟩, REL⟩
          · rw [if_pos t4, if_neg t5] at HE
            go_wp2_with (at_builtin; refine wpList_append_at rfl (.tmp 42) (.tmp 48) 88 rfl w.heap.size 91 i0 _ 2 16 Try.underlying88 HZ.out HZ0.out HZ1.out HZ2.out rfl (by decide) u7 (out.length) (flat out) rfl (row_kp HA1.out.row ((Kp.refl _ _).alloc _) (fun _ _ h => h)) ⟨Wr.heap.size, 0, none⟩ 1 1 [.int .i64 r1, .int .i64 (lo - 1)] rfl rfl (fun j u h => newrow0 Wr 91 _ j u h) (by intro u hu; simp only [List.mem_cons, List.not_mem_nil, or_false] at hu; rcases hu with rfl | rfl <;> rfl) (by unfold maxLen; omega) (by omega) (by simp; omega) ?_; intro v' w' hown hgrow hloc; have HO := Aside0.mk hown; have HG := Aside0.mk hgrow; have hy0 : w'.cell? ⟨Y, 0, none⟩ = some (.int .i64 r1) := HYW.out _ _ hgrow 0 _ hyc0; have hy1 : w'.cell? ⟨Y, 1, none⟩ = some (.int .i64 r2) := HYW.out _ _ hgrow 1 _ hyc1; clear hown hgrow hloc)
            have REL := Aside0.mk (HA1.out.more HO.out HG.out)
            clear HO HG HA1 HY hyc0 hyc1 c1 c2 hY hWr HYW HS
            go_roundw
            case measure => simp [intOf]; omega
            case rel => exact ⟨k + 1, out ++ [(r1, lo - 1)], by omega, by go_num, ⟨HST.out.trans (by rw [HE.out]; simp)⟩, REL⟩
        · by_cases t5 : hi < r2
          · rw [if_neg t4, if_pos t5] at HE
            go_wp2_with (at_builtin; refine wpList_append_at rfl (.tmp 54) (.tmp 60) 88 rfl w.heap.size 91 i0 _ 2 16 Try.underlying88 HZ.out HZ0.out HZ1.out HZ2.out rfl (by decide) u7 (out.length) (flat out) rfl (row_kp HA1.out.row ((Kp.refl _ _).alloc _) (fun _ _ h => h)) ⟨Wr.heap.size, 0, none⟩ 1 1 [.int .i64 (hi + 1), .int .i64 r2] rfl rfl (fun j u h => newrow0 Wr 91 _ j u h) (by intro u hu; simp only [List.mem_cons, List.not_mem_nil, or_false] at hu; rcases hu with rfl | rfl <;> rfl) (by unfold maxLen; omega) (by omega) (by simp; omega) ?_; intro v' w' hown hgrow hloc; have HO := Aside0.mk hown; have HG := Aside0.mk hgrow; clear hown hgrow hloc)
            have REL := Aside0.mk (HA1.out.more HO.out HG.out)
            clear HO HG HA1 HY hyc0 hyc1 c1 c2 hY hWr HYW HS
            go_roundw
            case measure => simp [intOf]; omega
            case rel => exact ⟨k + 1, out ++ [(hi + 1, r2)], by omega, by go_num, ⟨HST.out.trans (by rw [HE.out]; simp)⟩, REL⟩
          · rw [if_neg t4, if_neg t5] at HE
            have REL := HA1
            clear HA1 HYW HS HROW
            go_wp2
            go_roundw
            case measure => simp [intOf]; omega
            case rel => exact ⟨k + 1, out, by omega, by go_num, ⟨HST.out.trans (by rw [HE.out]; simp)⟩, REL⟩
    · obtain rfl : k = n := by omega
      rw [← HN.out, List.take_length] at HF
      obtain ⟨a2, cap2, hv2, _⟩ := own_slice HA.out.row
      have hp := blk_kp H.out.head HA.out.kept (fun h => h)
      have p1 : wr.cell? ⟨p, 0, none⟩ = some (.slice a R.length cap) := (blk_cell hp 0).trans rfl
      have p2 : wr.frozen? ⟨p, 0, none⟩ = false := blk_frozen hp 0
      have HP := Aside0.mk hp
      subst hv2
      clear hp
      go_wp2
      go_ret
      refine ⟨rfl, .slice a2 out.length cap2, ⟨?_, ?_, HGOOD.out, H.out.pbase⟩, ?_, fun q hq => ?_⟩
      · exact blk_put HP.out 0 _ rfl
      · have h3 := row_kp HA.out.row (kp_put (g := p) (i := 0) (.slice a2 out.length cap2)) (fun q hq e => by have := (row_blk HA.out.row hq).1; omega)
        rw [HF.out]
        exact row_lower h3 HB.out
      · exact (HA.out.kept.mono (fun _ h => h.elim)).then_ (kp_put _) (fun k hk => .inl hk)
      · exact (row_blk HA.out.row hq).1
/-- Cut: numbers taken out. -/
theorem cut_calls {w : World} {base p : Nat} {sv : Value} {R : List Run} (h : SetAt w base p sv R) (lo hi : Int) (hlo : tMin ≤ lo) (hhi : hi ≤ tMax) (hl : R.length ≤ 2199023255552) (hb : base ≤ w.heap.size) :
    Calls Try.prog 31 #[.pointer (some ⟨p, 0, none⟩), .int .i64 lo, .int .i64 hi] w fun e w' => e = .returned (.bool (meetsB R lo hi)) ∧ ∃ sv', SetAt w' base p sv' (if meetsB R lo hi = true then cutR R lo hi else R) ∧ Kp w w' (fun k => k = p) ∧ (∀ q, sv'.ownBlock = some q → sv.ownBlock = some q ∨ w.heap.size ≤ q) := by
  cases hB : meetsB R lo hi with
  | true =>
    refine (cut_new h lo hi hlo hhi hl hb hB).mono ?_
    rintro e w' ⟨rfl, sv', h1, h2, h3⟩
    exact ⟨rfl, sv', h1, h2, fun q hq => .inr (h3 q hq)⟩
  | false =>
    have H0 := Aside0.mk (meets_calls h lo hi (by omega))
    rw [hB] at H0
    have H := Aside0.mk h
    clear h hB
    simp only [Bool.false_eq_true, if_false]
    go_enter Try.func31, Try.ntmps31
    go_wp2_with fail
    refine H0.out.mono ?_
    rintro e w1 ⟨rfl, k1⟩
    have HK := Aside0.mk k1
    clear k1 H0
    go_wp2
    go_ret
    exact ⟨rfl, sv, H.out.stay HK.out, HK.out.mono (fun _ h => h.elim), fun q hq => .inl hq⟩
end Go.Proofs.Ytbaciaolhfmfkaa.Si64
