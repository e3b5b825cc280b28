/- This text walks the program's sets of whole numbers (uint8): putting numbers in. -/
import Derived.Test.YtbaciaolhfmfkaaSvu8
import Derived.Laws.AppendOwnNone
namespace Go.Proofs.Ytbaciaolhfmfkaa.Su8
open Go.RowKit Go.Proofs.YtbaciaolhfmfkaaW.PrintWords Go.Proofs.Ytbaciaolhfmfkaa.Mp Go.Proofs.Ytbaciaolhfmfkaa.Ow Go.Proofs.Ytbaciaolhfmfkaa.Sp
set_option linter.unusedVariables false
theorem apart_calls (a1 a2 b1 b2 : Int) (hb : b1 ≤ tMax) (ha : tMin ≤ a2) (w : World) :
    Calls Try.prog 37 #[.agg #[.int .u8 a1, .int .u8 a2], .agg #[.int .u8 b1, .int .u8 b2]] w fun e w' => e = .returned (.bool (decide (a2 + 1 < b1))) ∧ Kp w w' (fun _ => False) := by
  unfold tMax at hb
  unfold tMin at ha
  by_cases h : a2 < b1
  · go_enter Try.func37, Try.ntmps37
    go_wp2
    go_ret
    exact ⟨rfl, ((Kp.refl _ _).alloc _).alloc _⟩
  · have e1 : decide (a2 + 1 < b1) = false := by simp; omega
    rw [e1]
    go_enter Try.func37, Try.ntmps37
    go_wp2
    go_ret
    exact ⟨rfl, ((Kp.refl _ _).alloc _).alloc _⟩
theorem infoR : (Try.prog.info? 29).map (fun i => (i.zero, i.size, i.bytes)) = some (some (.agg #[.int .u8 0, .int .u8 0]), 2, 2) := by kernel_rfl
/-- What lies in memory while runs are looked through: two rows of the call's own, and the run that grows. -/
structure AddW (w wr : World) (X : Nat) (lv hv : Value) (s : List Run × Run × List Run) : Prop where
  lrow : wr.ownsRow w.heap.size 29 2 lv s.1.length (flat s.1)
  hrow : wr.ownsRow w.heap.size 29 2 hv s.2.2.length (flat s.2.2)
  box : wr.heap[X]? = some (.cells #[.int .u8 s.2.1.1, .int .u8 s.2.1.2] 29 (0, 0))
  kept : Kp w wr (fun _ => False)
  sepX : w.heap.size ≤ X
  lX : lv.ownBlock ≠ some X
  hX : hv.ownBlock ≠ some X
  lh : ∀ b, lv.ownBlock = some b → hv.ownBlock ≠ some b
  nil : s.2.2 = [] → hv = .slice none 0 0
section
variable {w wr w2 w3 : World} {X : Nat} {lv hv v : Value} {low high : List Run} {x r : Run}
theorem AddW.stay (h : AddW w wr X lv hv (low, x, high)) (K : Kp wr w2 (fun _ => False)) : AddW w w2 X lv hv (low, x, high) :=
  ⟨row_kp h.lrow K (fun _ _ h => h), row_kp h.hrow K (fun _ _ h => h), blk_kp h.box K (fun h => h), h.kept.then_ K (fun _ h => h.elim), h.sepX, h.lX, h.hX, h.lh, h.nil⟩
theorem AddW.boxlt (h : AddW w wr X lv hv (low, x, high)) : X < wr.heap.size := blk_lt h.box
theorem AddW.toLow (h : AddW w wr X lv hv (low, x, high)) (own : w2.ownsRow w.heap.size 29 2 v (low.length + 1) (flat low ++ [.int .u8 r.1, .int .u8 r.2])) (K : Kp wr w2 (fun q => lv.ownBlock = some q)) (hloc : ∀ q, v.ownBlock = some q → lv.ownBlock = some q ∨ wr.heap.size ≤ q) :
    AddW w w2 X v hv (low ++ [r], x, high) := by
  refine ⟨?_, row_kp h.hrow K (fun b hb hl => h.lh b hl hb), blk_kp h.box K (fun e => h.lX e), h.kept.then_ K (fun k hk => .inr (row_blk h.lrow hk).1), h.sepX, fun e => ?_, h.hX, fun b hb hb2 => ?_, h.nil⟩
  · have : flat (low ++ [r]) = flat low ++ [.int .u8 r.1, .int .u8 r.2] := by rw [flat_app]; rfl
    rw [this]
    simpa using own
  · rcases hloc _ e with h1 | h1
    · exact h.lX h1
    · have := h.boxlt; omega
  · rcases hloc _ hb with h1 | h1
    · exact h.lh b h1 hb2
    · have := (row_blk h.hrow hb2).2; omega
theorem AddW.toHigh (h : AddW w wr X lv hv (low, x, high)) (own : w2.ownsRow w.heap.size 29 2 v (high.length + 1) (flat high ++ [.int .u8 r.1, .int .u8 r.2])) (K : Kp wr w2 (fun q => hv.ownBlock = some q)) (hloc : ∀ q, v.ownBlock = some q → hv.ownBlock = some q ∨ wr.heap.size ≤ q) :
    AddW w w2 X lv v (low, x, high ++ [r]) := by
  refine ⟨row_kp h.lrow K (fun b hb hl => h.lh b hb hl), ?_, blk_kp h.box K (fun e => h.hX e), h.kept.then_ K (fun k hk => .inr (row_blk h.hrow hk).1), h.sepX, h.lX, fun e => ?_, fun b hb hb2 => ?_, fun e => ?_⟩
  · have : flat (high ++ [r]) = flat high ++ [.int .u8 r.1, .int .u8 r.2] := by rw [flat_app]; rfl
    rw [this]
    simpa using own
  · rcases hloc _ e with h1 | h1
    · exact h.hX h1
    · have := h.boxlt; omega
  · rcases hloc _ hb2 with h1 | h1
    · exact h.lh b hb h1
    · have := (row_blk h.lrow hb).2; omega
  · simp at e
theorem AddW.grow (h : AddW w wr X lv hv (low, x, high)) (y : Run) (hw : (wr.setCell ⟨X, 0, none⟩ (.int .u8 y.1)).setCell ⟨X, 1, none⟩ (.int .u8 y.2) = w2) : AddW w w2 X lv hv (low, y, high) := by
  have K : Kp wr w2 (fun q => q = X) := by
    rw [← hw]
    exact kp_put _ |>.then_ (kp_put _) (fun k hk => .inl hk)
  refine ⟨row_kp h.lrow K (fun b hb e => h.lX (e ▸ hb)), row_kp h.hrow K (fun b hb e => h.hX (e ▸ hb)), ?_, h.kept.then_ K (fun k hk => .inr (by have := h.sepX; omega)), h.sepX, h.lX, h.hX, h.lh, h.nil⟩
  rw [← hw]
  have h1 := blk_put h.box 0 (.int .u8 y.1) rfl
  have h2 := blk_put h1 1 (.int .u8 y.2) rfl
  exact h2
end
set_option maxHeartbeats 2000000 in
theorem add_new {w : World} {base p : Nat} {sv : Value} {R : List Run} (h : SetAt w base p sv R) (lo hi : Int) (hlo : tMin ≤ lo) (hhi : hi ≤ tMax) (hl : R.length ≤ 4398046511104) (hb : base ≤ w.heap.size) (hB : holdsB R lo hi = false) :
    Calls Try.prog 19 #[.pointer (some ⟨p, 0, none⟩), .int .u8 lo, .int .u8 hi] w fun e w' => e = .returned (.bool true) ∧ ∃ sv', SetAt w' base p sv' (addR R (lo, hi)) ∧ Kp w w' (fun k => k = p) ∧ (∀ q, sv'.ownBlock = some q → w.heap.size ≤ q) := by
  have hlh : lo ≤ hi := by
    unfold holdsB at hB
    rcases Int.lt_or_le hi lo with hlt | hge
    · simp [hlt] at hB
    · exact hge
  have H0 := Aside0.mk (holds_calls h lo hi (by omega))
  rw [hB] at H0
  have H := Aside0.mk h
  obtain ⟨a, cap, hsv, _⟩ := own_slice h.own
  subst hsv
  have hpw : p < w.heap.size := blk_lt h.head
  have HLO := Aside0.mk hlo
  have HHI := Aside0.mk hhi
  have HLH := Aside0.mk hlh
  clear h hB hlo hhi hlh
  go_enter Try.func19, Try.ntmps19
  go_wp2_with fail
  refine H0.out.mono ?_
  rintro e w1 ⟨rfl, k1⟩
  have p1 : w1.cell? ⟨p, 0, none⟩ = some (.slice a R.length cap) := (blk_cell (H.out.stay k1).head 0).trans rfl
  have p2 := fun o => cell_alloc (o := o) p1
  have HK1 := Aside0.mk k1
  clear k1 H0
  obtain ⟨X, hX⟩ : ∃ X, w1.heap.size = X := ⟨_, rfl⟩
  obtain ⟨W, hW⟩ : ∃ W, w1.alloc (.cells #[.int .u8 lo, .int .u8 hi] 29) = W := ⟨_, rfl⟩
  have HA : Aside0 (AddW w W X (.slice none 0 0) (.slice none 0 0) ([], (lo, hi), [])) := ⟨by
    have h1 : W.heap[X]? = some (.cells #[.int .u8 lo, .int .u8 hi] 29 (0, 0)) := by rw [← hW, ← hX]; exact heap_alloc_new _ _
    refine ⟨⟨rfl, .inl ⟨rfl, rfl⟩⟩, ⟨rfl, .inl ⟨rfl, rfl⟩⟩, h1, ?_, by rw [← hX]; exact HK1.out.size, fun e => (by cases e), fun e => (by cases e), fun b e => (by cases e), fun _ => rfl⟩
    rw [← hW]; exact HK1.out.alloc _⟩
  have q1 : W.cell? ⟨p, 0, none⟩ = some (.slice a R.length cap) := by rw [← hW]; exact p2 _
  obtain ⟨n, hn⟩ : ∃ n, R.length = n := ⟨_, rfl⟩
  have HN := Aside0.mk hn
  rw [hn] at p1 p2 q1 hl
  clear hn
  go_wp2_with fail
  clear p1 p2 hW hX
  go_loopw [8, 9, 24] (fun lv hv iv wr => ∃ (k : Nat) (low high : List Run) (x : Run), k ≤ n ∧ iv = .int .i64 k ∧ Aside0 ((R.take k).foldl stepA ([], (lo, hi), []) = (low, x, high)) ∧ Aside0 (AddW w wr X lv hv (low, x, high))) (fun _ _ iv _ => n - (intOf iv).toNat)
  case atStart => exact ⟨0, [], [], (lo, hi), by omega, rfl, ⟨rfl⟩, HA⟩
  case round =>
    clear HA q1
    obtain ⟨k, low, high, x, hk, rfl, HF, HA⟩ := hrel
    by_cases hlt : k < n
    · have hr : R[k]? = some (R.getD k (0, 0)) := by rw [List.getElem?_eq_getElem (by rw [HN.out]; exact hlt)]; simp [HN.out, hlt]
      obtain ⟨g, rfl, c1, c2⟩ := run_cells (H.out.own) hr
      have c1 := cell_kp c1 HA.out.kept (fun h => h)
      have c2 := cell_kp c2 HA.out.kept (fun h => h)
      have hst : (R.take (k + 1)).foldl stepA ([], (lo, hi), []) = stepA (low, x, high) (R.getD k (0, 0)) := by
        rw [List.take_succ_eq_append_getElem (by rw [HN.out]; exact hlt), List.foldl_append, HF.out]
        simp [HN.out, hlt]
      have hinv := addS_inv H.out.good (x := (lo, hi)) ⟨HLO.out, HLH.out, HHI.out⟩ k (by rw [HN.out]; exact hk)
      rw [HF.out] at hinv
      have hok := hinv.ok
      have hlen := hinv.len
      rw [List.length_take] at hlen
      have hrk := H.out.good.ok _ (List.mem_of_getElem? hr)
      generalize R.getD k (0, 0) = r at *
      obtain ⟨r1, r2⟩ := r
      obtain ⟨x1, x2⟩ := x
      simp only at hok hlen c1 c2 hrk
      have HST := Aside0.mk hst
      have HOK := Aside0.mk hok
      have HRK := Aside0.mk hrk
      have hll : low.length ≤ 4398046511104 ∧ high.length ≤ 4398046511104 := by omega
      obtain ⟨hll1, hll2⟩ := hll
      clear hr hst hinv hok hrk hlen HF
      have k0 : (0 : Int) ≤ (k : Int) := by omega
      have k1 : (k : Int) < (n : Int) := by omega
      have hxc0 : wr.cell? ⟨X, 0, none⟩ = some (.int .u8 x1) := (blk_cell HA.out.box 0).trans rfl
      have hxc1 : wr.cell? ⟨X, 1, none⟩ = some (.int .u8 x2) := (blk_cell HA.out.box 1).trans rfl
      have hxa0 := fun o => cell_alloc (o := o) hxc0
      have hxa1 := fun o => cell_alloc (o := o) hxc1
      obtain ⟨Y, hY⟩ : ∃ Y, wr.heap.size = Y := ⟨_, rfl⟩
      obtain ⟨Wr, hWr⟩ : ∃ Wr, wr.alloc (.cells #[.int .u8 r1, .int .u8 r2] 29) = Wr := ⟨_, rfl⟩
      have kr : Kp wr Wr (fun _ => False) := by rw [← hWr]; exact (Kp.refl _ _).alloc _
      have HY : Aside0 (Wr.heap[Y]? = some (.cells #[.int .u8 r1, .int .u8 r2] 29 (0, 0))) := ⟨by rw [← hWr, ← hY]; exact heap_alloc_new _ _⟩
      have HA1 := Aside0.mk (HA.out.stay kr)
      have hyc0 : Wr.cell? ⟨Y, 0, none⟩ = some (.int .u8 r1) := (blk_cell HY.out 0).trans rfl
      have hyc1 : Wr.cell? ⟨Y, 1, none⟩ = some (.int .u8 r2) := (blk_cell HY.out 1).trans rfl
      have hzc0 := cell_kp hxc0 kr (fun h => h)
      have hzc1 := cell_kp hxc1 kr (fun h => h)
      clear kr hxa0 hxa1 hxc0 hxc1
      obtain ⟨i0, hi0, hz0, hz1, hz2⟩ := info_parts infoR
      have HZ := Aside0.mk hi0
      have HZ0 := Aside0.mk hz0
      have HZ1 := Aside0.mk hz1
      have HZ2 := Aside0.mk hz2
      clear hi0 hz0 hz1 hz2
      go_wp2_with fail
      clear c1 c2 hWr hY
      refine (apart_calls r1 r2 x1 x2 (by have := HOK.out; omega) (by have := HRK.out; omega) Wr).mono ?_
      rintro e w2 ⟨rfl, k2⟩
      have HA2 := Aside0.mk (HA1.out.stay k2)
      have HY2 := Aside0.mk (blk_kp HY.out k2 (fun h => h))
      have y0 : w2.cell? ⟨Y, 0, none⟩ = some (.int .u8 r1) := (blk_cell HY2.out 0).trans rfl
      have y1 : w2.cell? ⟨Y, 1, none⟩ = some (.int .u8 r2) := (blk_cell HY2.out 1).trans rfl
      have z0 := cell_kp hzc0 k2 (fun h => h)
      have z1 := cell_kp hzc1 k2 (fun h => h)
      have hbw : w.heap.size ≤ w2.heap.size := HA2.out.kept.size
      clear hyc0 hyc1 hzc0 hzc1 k2 HA1 HY HA
      by_cases t1 : r2 + 1 < x1
      · have e1 : decide (r2 + 1 < x1) = true := decide_eq_true t1
        have HE : Aside0 (stepA (low, (x1, x2), high) (r1, r2) = (low ++ [(r1, r2)], (x1, x2), high)) := ⟨by unfold stepA; rw [if_pos t1]⟩
        rw [e1]
        clear t1 e1
        go_wp2_with (at_builtin; refine wpList_append_at rfl (.tmp 43) (.tmp 45) 26 rfl w.heap.size 29 i0 _ 2 2 Try.underlying26 HZ.out HZ0.out HZ1.out HZ2.out rfl (by decide) u8 low.length (flat low) rfl (row_kp HA2.out.lrow ((Kp.refl _ _).alloc _) (fun _ _ h => h)) ⟨w2.heap.size, 0, none⟩ 1 1 [.int .u8 r1, .int .u8 r2] rfl rfl (fun j u h => newrow0 w2 29 _ j u h) (by intro u hu; simp only [List.mem_cons, List.not_mem_nil, or_false] at hu; rcases hu with rfl | rfl <;> rfl) (by unfold maxLen; omega) (by omega) (by simp; omega) ?_; intro v' w' hown hgrow hloc; have HO := Aside0.mk hown; have HG := Aside0.mk hgrow; have HL := Aside0.mk hloc; clear hown hgrow hloc)
        have hq := HA2.out.stay ((Kp.refl w2 _).alloc (.cells #[.int .u8 r1, .int .u8 r2] 29))
        have REL := Aside0.mk (hq.toLow (r := (r1, r2)) HO.out (kp_grown HG.out) (loc_ HL.out))
        clear hq HO HG HL HA2 y0 y1 z0 z1
        go_roundw
        case measure => simp [intOf]; omega
        case rel => exact ⟨k + 1, low ++ [(r1, r2)], high, (x1, x2), by omega, by go_num, ⟨HST.out.trans HE.out⟩, REL⟩
      · have e1 : decide (r2 + 1 < x1) = false := decide_eq_false t1
        rw [e1]
        clear e1
        go_wp2_with fail
        refine (apart_calls x1 x2 r1 r2 (by have := HRK.out; omega) (by have := HOK.out; omega) w2).mono ?_
        rintro e w3 ⟨rfl, k3⟩
        have HA3 := Aside0.mk (HA2.out.stay k3)
        have HY3 := Aside0.mk (blk_kp HY2.out k3 (fun h => h))
        have v0 : w3.cell? ⟨Y, 0, none⟩ = some (.int .u8 r1) := (blk_cell HY3.out 0).trans rfl
        have v1 : w3.cell? ⟨Y, 1, none⟩ = some (.int .u8 r2) := (blk_cell HY3.out 1).trans rfl
        have s0 := cell_kp z0 k3 (fun h => h)
        have s1 := cell_kp z1 k3 (fun h => h)
        have hbw3 : w.heap.size ≤ w3.heap.size := HA3.out.kept.size
        clear k3 HA2 HY2 y0 y1 z0 z1
        by_cases t2 : x2 + 1 < r1
        · have e1 : decide (x2 + 1 < r1) = true := decide_eq_true t2
          have HE : Aside0 (stepA (low, (x1, x2), high) (r1, r2) = (low, (x1, x2), high ++ [(r1, r2)])) := ⟨by unfold stepA; rw [if_neg (by simp only; omega), if_pos (by simp only; omega)]⟩
          rw [e1]
          clear t1 t2 e1
          go_wp2_with (at_builtin; refine wpList_append_at rfl (.tmp 51) (.tmp 53) 26 rfl w.heap.size 29 i0 _ 2 2 Try.underlying26 HZ.out HZ0.out HZ1.out HZ2.out rfl (by decide) u9 high.length (flat high) rfl (row_kp HA3.out.hrow ((Kp.refl _ _).alloc _) (fun _ _ h => h)) ⟨w3.heap.size, 0, none⟩ 1 1 [.int .u8 r1, .int .u8 r2] rfl rfl (fun j u h => newrow0 w3 29 _ j u h) (by intro u hu; simp only [List.mem_cons, List.not_mem_nil, or_false] at hu; rcases hu with rfl | rfl <;> rfl) (by unfold maxLen; omega) (by omega) (by simp; omega) ?_; intro v' w' hown hgrow hloc; have HO := Aside0.mk hown; have HG := Aside0.mk hgrow; have HL := Aside0.mk hloc; clear hown hgrow hloc)
          have hq := HA3.out.stay ((Kp.refl w3 _).alloc (.cells #[.int .u8 r1, .int .u8 r2] 29))
          have REL := Aside0.mk (hq.toHigh (r := (r1, r2)) HO.out (kp_grown HG.out) (loc_ HL.out))
          clear hq HO HG HL HA3 v0 v1 s0 s1
          go_roundw
          case measure => simp [intOf]; omega
          case rel => exact ⟨k + 1, low, high ++ [(r1, r2)], (x1, x2), by omega, by go_num, ⟨HST.out.trans HE.out⟩, REL⟩
        · have e1 : decide (x2 + 1 < r1) = false := decide_eq_false t2
          have HE : Aside0 (stepA (low, (x1, x2), high) (r1, r2) = (low, (min x1 r1, max x2 r2), high)) := ⟨by unfold stepA; rw [if_neg (by simp only; omega), if_neg (by simp only; omega)]⟩
          rw [e1]
          have s2 : w3.frozen? ⟨X, 0, none⟩ = false := blk_frozen HA3.out.box 0
          have s3 : w3.frozen? ⟨X, 1, none⟩ = false := blk_frozen HA3.out.box 1
          have g1 : ∀ v, (w3.setCell ⟨X, 0, none⟩ v).cell? ⟨X, 1, none⟩ = some (.int .u8 x2) := fun v => (World.cell?_setCell_other _ _ _ _ (by simp)).trans s1
          have g2 : ∀ v, (w3.setCell ⟨X, 0, none⟩ v).frozen? ⟨X, 1, none⟩ = false := fun v => by rw [World.frozen?_setCell]; exact s3
          clear t1 t2 e1
          go_wp2
          rw [show (if r1 < x1 then r1 else x1) = min x1 r1 by split <;> omega, show (if x2 < r2 then r2 else x2) = max x2 r2 by split <;> omega]
          have REL := Aside0.mk (HA3.out.grow (min x1 r1, max x2 r2) rfl)
          clear HA3 v0 v1 s0 s1 s2 s3 g1 g2
          go_roundw
          case measure => simp [intOf]; omega
          case rel => exact ⟨k + 1, low, high, (min x1 r1, max x2 r2), by omega, by go_num, ⟨HST.out.trans HE.out⟩, REL⟩
    · obtain rfl : k = n := by omega
      rw [← HN.out, List.take_length] at HF
      have hinv := addS_inv H.out.good (x := (lo, hi)) ⟨HLO.out, HLH.out, HHI.out⟩ R.length (Nat.le_refl _)
      rw [List.take_length, HF.out] at hinv
      have hlen := hinv.len
      rw [HN.out] at hlen
      simp only at hlen
      have hll : low.length ≤ 4398046511104 ∧ high.length ≤ 4398046511104 := by omega
      have hll3 : low.length + high.length ≤ 4398046511104 := by omega
      obtain ⟨hll1, hll2⟩ := hll
      obtain ⟨x1, x2⟩ := x
      have HADD : Aside0 (addR R (lo, hi) = low ++ (x1, x2) :: high) := ⟨by unfold addR addS; rw [HF.out]⟩
      have HGOOD := Aside0.mk (addR_good H.out.good (x := (lo, hi)) ⟨HLO.out, HLH.out, HHI.out⟩).1
      clear hinv hlen HF
      have hxc0 : wr.cell? ⟨X, 0, none⟩ = some (.int .u8 x1) := (blk_cell HA.out.box 0).trans rfl
      have hxc1 : wr.cell? ⟨X, 1, none⟩ = some (.int .u8 x2) := (blk_cell HA.out.box 1).trans rfl
      obtain ⟨i0, hi0, hz0, hz1, hz2⟩ := info_parts infoR
      have HZ := Aside0.mk hi0
      have HZ0 := Aside0.mk hz0
      have HZ1 := Aside0.mk hz1
      have HZ2 := Aside0.mk hz2
      have hbw : w.heap.size ≤ wr.heap.size := HA.out.kept.size
      clear hi0 hz0 hz1 hz2
      have HP : Aside0 (∀ o w', ((wr.alloc o)).grownBy w' u8.ownBlock → w'.heap[p]? = some (.cells #[.slice a R.length cap] 61 (0, 0))) := ⟨fun o w' hg => by
        have h1 := blk_kp H.out.head (HA.out.kept.alloc o) (fun h => h)
        exact blk_grown h1 hg (fun e => by have := (row_blk HA.out.lrow e.symm).1; omega)⟩
      have HS : Aside0 (∀ o w', ((wr.alloc o)).grownBy w' u8.ownBlock → w.heap.size ≤ w'.heap.size) := ⟨fun o w' hg => by have := hg.size; simp at this; omega⟩
      have HB := Aside0.mk hb
      rcases high with _ | ⟨h1, ht⟩
      · have hnil := HA.out.nil rfl
        subst hnil
        go_wp2_with (first | (at_builtin; refine wpList_append_at rfl (.tmp 57) (.tmp 59) 26 rfl w.heap.size 29 i0 _ 2 2 Try.underlying26 HZ.out HZ0.out HZ1.out HZ2.out rfl (by decide) u8 low.length (flat low) rfl (row_kp HA.out.lrow ((Kp.refl _ _).alloc _) (fun _ _ h => h)) ⟨wr.heap.size, 0, none⟩ 1 1 [.int .u8 x1, .int .u8 x2] rfl rfl (fun j u h => newrow0 wr 29 _ j u h) (by intro u hu; simp only [List.mem_cons, List.not_mem_nil, or_false] at hu; rcases hu with rfl | rfl <;> rfl) (by unfold maxLen; omega) (by omega) (by simp; omega) ?_; intro v' w' hown hgrow hloc; obtain ⟨g2, cap2, rfl⟩ := own_sl_ hown; have HO := Aside0.mk hown; have HG := Aside0.mk hgrow; have HL := Aside0.mk hloc; have hp1 := HP.out _ _ hgrow; have hbw' := HS.out _ _ hgrow; clear hown hgrow hloc) | (at_builtin; refine wpList_append_own_none rfl (.tmp 60) (.tmp 61) 26 rfl w.heap.size 29 i0 2 Try.underlying26 HZ.out (.slice (some ⟨g2, 0, none⟩) (low.length + 1) cap2) (low.length + 1) _ rfl HO.out rfl ?_; have p0 : w'.cell? ⟨p, 0, none⟩ = some (.slice a R.length cap) := (blk_cell hp1 0).trans rfl; have p1 : w'.frozen? ⟨p, 0, none⟩ = false := blk_frozen hp1 0; have HP1 := Aside0.mk hp1; clear hp1))
        go_ret
        have hq := HA.out.kept.alloc (.cells #[.int .u8 x1, .int .u8 x2] 29)
        have hk2 : Kp w w' (fun _ => False) := hq.then_ (kp_grown HG.out) (fun q hq => .inr (row_blk HA.out.lrow hq).1)
        refine ⟨rfl, .slice (some ⟨g2, 0, none⟩) (low.length + 1) cap2, ⟨?_, ?_, HGOOD.out, H.out.pbase⟩, ?_, fun q hq => ?_⟩
        · exact blk_put HP1.out 0 _ rfl
        · have h3 := row_kp HO.out (kp_put (g := p) (i := 0) (.slice (some ⟨g2, 0, none⟩) (low.length + 1) cap2)) (fun q hq e => by have := (row_blk HO.out hq).1; omega)
          rw [HADD.out]
          have e1 : flat (low ++ [(x1, x2)]) = flat low ++ [.int .u8 x1, .int .u8 x2] := by rw [flat_app]; rfl
          rw [e1]
          have := row_lower h3 HB.out
          simpa using this
        · exact (hk2.mono (fun _ h => h.elim)).then_ (kp_put _) (fun k hk => .inl hk)
        · exact (row_blk HO.out hq).1
      · obtain ⟨a9, cap9, hv9, hg9⟩ := own_slice HA.out.hrow
        obtain ⟨g9, rfl⟩ := hg9 (by simp)
        subst hv9
        have HR : Aside0 (∀ o w', ((wr.alloc o)).grownBy w' u8.ownBlock → ∀ (j : Nat) (u : Value), (flat (h1 :: ht))[j]? = some u → w'.cell? ((⟨g9, 0, none⟩ : Addr).add j) = some u) := ⟨fun o w' hg j u hu => by
          have hr := row_kp HA.out.hrow (((Kp.refl wr (fun _ => False)).alloc o).mono (fun _ h => h.elim) |>.then_ (kp_grown hg) (fun k hk => .inl hk)) (fun b hb hl => HA.out.lh b hl hb)
          rw [add0]
          exact own_cell hr j u hu⟩
        have HF1 : Aside0 (∀ u ∈ flat (h1 :: ht), u.oneCell' = true) := ⟨fun u hu => by
          obtain ⟨r, _, hr⟩ := List.mem_flatMap.1 hu
          simp only [List.mem_cons, List.not_mem_nil, or_false] at hr
          rcases hr with rfl | rfl <;> rfl⟩
        have HFL := Aside0.mk (flat_len (h1 :: ht))
        have HHL : Aside0 ((h1 :: ht).length ≤ 4398046511104) := ⟨hll2⟩
        generalize hnn : (h1 :: ht).length = nh at *
        have HNN := Aside0.mk hnn
        clear hnn
        go_wp2_with (first | (at_builtin; refine wpList_append_at rfl (.tmp 57) (.tmp 59) 26 rfl w.heap.size 29 i0 _ 2 2 Try.underlying26 HZ.out HZ0.out HZ1.out HZ2.out rfl (by decide) u8 low.length (flat low) rfl (row_kp HA.out.lrow ((Kp.refl _ _).alloc _) (fun _ _ h => h)) ⟨wr.heap.size, 0, none⟩ 1 1 [.int .u8 x1, .int .u8 x2] rfl rfl (fun j u h => newrow0 wr 29 _ j u h) (by intro u hu; simp only [List.mem_cons, List.not_mem_nil, or_false] at hu; rcases hu with rfl | rfl <;> rfl) (by unfold maxLen; omega) (by omega) (by simp; omega) ?_; intro v' w' hown hgrow hloc; obtain ⟨g2, cap2, rfl⟩ := own_sl_ hown; have HO := Aside0.mk hown; have HG := Aside0.mk hgrow; have HL := Aside0.mk hloc; have hp1 := HP.out _ _ hgrow; have hbw' := HS.out _ _ hgrow; clear hown hgrow hloc) | (at_builtin; refine wpList_append_at rfl (.tmp 60) (.tmp 61) 26 rfl w.heap.size 29 i0 _ 2 2 Try.underlying26 HZ.out HZ0.out HZ1.out HZ2.out rfl (by decide) (.slice (some ⟨g2, 0, none⟩) (low.length + 1) cap2) (low.length + 1) _ rfl HO.out ⟨g9, 0, none⟩ nh cap9 (flat (h1 :: ht)) rfl HFL.out (HR.out _ _ HG.out) HF1.out (by unfold maxLen; omega) (by omega) hbw' ?_; intro v'' w'' hown2 hgrow2 hloc2; obtain ⟨a3, cap3, rfl, _⟩ := own_slice hown2; have HO2 := Aside0.mk hown2; have HG2 := Aside0.mk hgrow2; have HL2 := Aside0.mk hloc2; have HP2 := Aside0.mk (blk_grown hp1 hgrow2 (fun e => by have := (row_blk HO.out e.symm).1; omega)); have p0 : w''.cell? ⟨p, 0, none⟩ = some (.slice a R.length cap) := (blk_cell HP2.out 0).trans rfl; have p1 : w''.frozen? ⟨p, 0, none⟩ = false := blk_frozen HP2.out 0; clear hown2 hgrow2 hloc2 hp1))
        go_ret
        have hq := HA.out.kept.alloc (.cells #[.int .u8 x1, .int .u8 x2] 29)
        have hk2 : Kp w w'' (fun _ => False) := (hq.then_ (kp_grown HG.out) (fun q hq => .inr (row_blk HA.out.lrow hq).1)).then_ (kp_grown HG2.out) (fun q hq => .inr (row_blk HO.out hq).1)
        refine ⟨rfl, .slice a3 (low.length + 1 + nh) cap3, ⟨?_, ?_, HGOOD.out, H.out.pbase⟩, ?_, fun q hq => ?_⟩
        · exact blk_put HP2.out 0 _ rfl
        · have h3 := row_kp HO2.out (kp_put (g := p) (i := 0) (.slice a3 (low.length + 1 + nh) cap3)) (fun q hq e => by have := (row_blk HO2.out hq).1; omega)
          rw [HADD.out]
          have e1 : flat (low ++ (x1, x2) :: h1 :: ht) = flat low ++ [.int .u8 x1, .int .u8 x2] ++ flat (h1 :: ht) := by rw [flat_app, flat_cons]; simp
          have e2 : (low ++ (x1, x2) :: h1 :: ht).length = low.length + 1 + nh := by rw [← HNN.out]; simp; omega
          rw [e1, e2]
          exact row_lower h3 HB.out
        · exact (hk2.mono (fun _ h => h.elim)).then_ (kp_put _) (fun k hk => .inl hk)
        · exact (row_blk HO2.out hq).1
/-- Add: numbers put in. -/
theorem add_calls {w : World} {base p : Nat} {sv : Value} {R : List Run} (h : SetAt w base p sv R) (lo hi : Int) (hlo : tMin ≤ lo) (hhi : hi ≤ tMax) (hl : R.length ≤ 4398046511104) (hb : base ≤ w.heap.size) :
    Calls Try.prog 19 #[.pointer (some ⟨p, 0, none⟩), .int .u8 lo, .int .u8 hi] w fun e w' => e = .returned (.bool (!holdsB R lo hi)) ∧ ∃ sv', SetAt w' base p sv' (if holdsB R lo hi = true then R else addR R (lo, hi)) ∧ Kp w w' (fun k => k = p) ∧ (∀ q, sv'.ownBlock = some q → sv.ownBlock = some q ∨ w.heap.size ≤ q) := by
  cases hB : holdsB R lo hi with
  | false =>
    refine (add_new h lo hi hlo hhi hl hb hB).mono ?_
    rintro e w' ⟨rfl, sv', h1, h2, h3⟩
    exact ⟨rfl, sv', h1, h2, fun q hq => .inr (h3 q hq)⟩
  | true =>
    have H0 := Aside0.mk (holds_calls h lo hi (by omega))
    rw [hB] at H0
    have H := Aside0.mk h
    clear h hB
    simp only [Bool.not_true, if_true]
    go_enter Try.func19, Try.ntmps19
    go_wp2_with fail
    refine H0.out.mono ?_
    rintro e w1 ⟨rfl, k1⟩
    have HK := Aside0.mk k1
    clear k1 H0
    go_wp2
    go_ret
    exact ⟨rfl, sv, H.out.stay HK.out, HK.out.mono (fun _ h => h.elim), fun q hq => .inl hq⟩
end Go.Proofs.Ytbaciaolhfmfkaa.Su8
