/- This text walks the program's sets of whole numbers (int): what the calls do to what is in, lists of runs, clones. -/
import Derived.Test.YtbaciaolhfmfkaaSxi64
namespace Go.Proofs.Ytbaciaolhfmfkaa.Si64
open Go.RowKit Go.Proofs.YtbaciaolhfmfkaaW.PrintWords Go.Proofs.Ytbaciaolhfmfkaa.Mp Go.Proofs.Ytbaciaolhfmfkaa.Ow Go.Proofs.Ytbaciaolhfmfkaa.Sp
set_option linter.unusedVariables false
set_option maxRecDepth 100000
/-- What a call that writes the set leaves. -/
structure Left (w w' : World) (base p : Nat) (sv : Value) (R R' : List Run) (b : Bool) : Prop where
  set : ∃ sv', SetAt w' base p sv' R' ∧ ∀ q, sv'.ownBlock = some q → sv.ownBlock = some q ∨ w.heap.size ≤ q
  len : R'.length ≤ R.length + 1
  told : b = true ↔ R' ≠ R
  kept : Kp w w' (fun k => k = p)
theorem add_sem {w : World} {base p : Nat} {sv : Value} {R : List Run} (h : SetAt w base p sv R) (lo hi : Int) (hlo : tMin ≤ lo) (hhi : hi ≤ tMax) (hl : R.length ≤ 4398046511104) (hb : base ≤ w.heap.size) :
    Calls Try.prog 29 #[.pointer (some ⟨p, 0, none⟩), .int .i64 lo, .int .i64 hi] w fun e w' => ∃ b R', e = .returned (.bool b) ∧ Left w w' base p sv R R' b ∧ ∀ y, mem R' y ↔ mem R y ∨ (lo ≤ y ∧ y ≤ hi) := by
  refine (add_calls h lo hi hlo hhi hl hb).mono ?_
  rintro e w' ⟨rfl, sv', h1, h2, h3⟩
  have hh := holdsB_iff h.good lo hi
  cases hB : holdsB R lo hi with
  | true =>
    rw [hB, if_pos rfl] at h1
    rw [hB] at hh
    refine ⟨false, R, rfl, ⟨⟨sv', h1, h3⟩, by omega, by simp, h2⟩, fun y => ⟨.inl, fun h => h.elim id (fun h => hh.1 rfl y h.1 h.2)⟩⟩
  | false =>
    have hlh : lo ≤ hi := by
      unfold holdsB at hB
      rcases Int.lt_or_le hi lo with hlt | hge
      · simp [hlt] at hB
      · exact hge
    rw [hB] at h1 hh
    simp only [Bool.false_eq_true, if_false] at h1
    obtain ⟨g1, g2, g3⟩ := addR_good h.good (x := (lo, hi)) ⟨hlo, hlh, hhi⟩
    refine ⟨true, addR R (lo, hi), rfl, ⟨⟨sv', h1, h3⟩, g3, ⟨fun _ e => ?_, fun _ => rfl⟩, h2⟩, g2⟩
    have := hh.2 (fun y a b => by rw [← e]; exact (g2 y).2 (.inr ⟨a, b⟩))
    cases this
theorem cut_sem {w : World} {base p : Nat} {sv : Value} {R : List Run} (h : SetAt w base p sv R) (lo hi : Int) (hlo : tMin ≤ lo) (hhi : hi ≤ tMax) (hl : R.length ≤ 2199023255552) (hb : base ≤ w.heap.size) :
    Calls Try.prog 31 #[.pointer (some ⟨p, 0, none⟩), .int .i64 lo, .int .i64 hi] w fun e w' => ∃ b R', e = .returned (.bool b) ∧ Left w w' base p sv R R' b ∧ ∀ y, mem R' y ↔ mem R y ∧ ¬ (lo ≤ y ∧ y ≤ hi) := by
  refine (cut_calls h lo hi hlo hhi hl hb).mono ?_
  rintro e w' ⟨rfl, sv', h1, h2, h3⟩
  have hh := meetsB_iff h.good lo hi
  cases hB : meetsB R lo hi with
  | false =>
    rw [hB] at h1 hh
    simp only [Bool.false_eq_true, if_false] at h1
    refine ⟨false, R, rfl, ⟨⟨sv', h1, h3⟩, by omega, by simp, h2⟩, fun y => ⟨fun h => ⟨h, fun hy => ?_⟩, fun h => h.1⟩⟩
    have := hh.2 ⟨y, hy.1, hy.2, h⟩
    cases this
  | true =>
    rw [hB, if_pos rfl] at h1
    rw [hB] at hh
    obtain ⟨y0, a, b, c⟩ := hh.1 rfl
    obtain ⟨g1, g2, g3, _⟩ := cutR_good (lo := lo) (hi := hi) (by omega) h.good
    refine ⟨true, cutR R lo hi, rfl, ⟨⟨sv', h1, h3⟩, g3, ⟨fun _ e => ?_, fun _ => rfl⟩, h2⟩, g2⟩
    rw [← e] at c
    exact ((g2 y0).1 c).2 ⟨a, b⟩
theorem new_calls (w : World) : Calls Try.prog 28 #[] w fun e w' => e = .returned (.pointer (some ⟨w.heap.size, 0, none⟩)) ∧ SetAt w' w.heap.size w.heap.size (.slice none 0 0) [] ∧ Kp w w' (fun _ => False) := by
  go_enter Try.func28, Try.ntmps28
  go_wp2
  go_ret
  exact ⟨rfl, ⟨heap_alloc_new _ _, ⟨rfl, .inl ⟨rfl, rfl⟩⟩, good_nil, Nat.le_refl _⟩, (Kp.refl _ _).alloc _⟩
theorem len_calls {w : World} {base p : Nat} {sv : Value} {R : List Run} (h : SetAt w base p sv R) :
    Calls Try.prog 30 #[.pointer (some ⟨p, 0, none⟩)] w fun e w' => e = .returned (.int .i64 R.length) ∧ w = w' := by
  obtain ⟨a, cap, hsv, _⟩ := own_slice h.own
  have p1 : w.cell? ⟨p, 0, none⟩ = some (.slice a R.length cap) := (blk_cell h.head 0).trans (by rw [hsv]; rfl)
  generalize R.length = n at *
  clear h hsv
  go_enter Try.func30, Try.ntmps30
  go_wp2
  go_ret
  exact ⟨rfl, rfl⟩
theorem one_cells (R : List Run) : ∀ u ∈ flat R, u.oneCell' = true := fun u hu => by
  obtain ⟨r, _, hr⟩ := List.mem_flatMap.1 hu
  simp only [List.mem_cons, List.not_mem_nil, or_false] at hr
  rcases hr with rfl | rfl <;> rfl
theorem sclone_calls {w : World} {base : Nat} {sv : Value} {R : List Run} (h : w.ownsRow base 91 2 sv R.length (flat R)) (hl : R.length ≤ 4398046511104) :
    Calls Try.prog 77 #[sv] w fun e w' => ∃ v, e = .returned v ∧ w'.ownsRow w.heap.size 91 2 v R.length (flat R) ∧ Kp w w' (fun _ => False) := by
  rcases h.2 with ⟨hv, hn⟩ | ⟨g, cap, cur, rfl, _⟩
  · subst hv
    have hR : R = [] := List.eq_nil_of_length_eq_zero hn
    subst hR
    have hq : (binOp BinOp.eql 88 (Value.slice none 0 0) (Value.slice none 0 0)).run Try.prog w = .ok (.bool true) w := by kernel_rfl
    clear h hn hl
    go_enter Try.func77, Try.ntmps77
    go_wp2
    go_ret
    exact ⟨_, rfl, ⟨rfl, .inl ⟨rfl, rfl⟩⟩, Kp.refl _ _⟩
  · have HH := Aside0.mk h
    have HFL := Aside0.mk (flat_len R)
    have HF1 := Aside0.mk (one_cells R)
    obtain ⟨i0, hi0, hz0, hz1, hz2⟩ := info_parts infoR
    have HZ := Aside0.mk hi0
    have HZ0 := Aside0.mk hz0
    have HZ1 := Aside0.mk hz1
    have HZ2 := Aside0.mk hz2
    clear hi0 hz0 hz1 hz2 h
    have hq : (binOp BinOp.eql 88 (Value.slice (some ⟨g, 0, none⟩) R.length cap) (Value.slice none 0 0)).run Try.prog w = .ok (.bool false) w := by kernel_rfl
    go_enter Try.func77, Try.ntmps77
    have hcl : R.length ≤ cap := by obtain ⟨_, _, _, h1, _⟩ := own_blk? HH.out; exact h1
    have HE : Aside0 ((w.alloc (.cells #[] 91)).ownsRow w.heap.size 91 2 (.slice (some ⟨w.heap.size, 0, none⟩) 0 0) 0 []) := ⟨rfl, .inr ⟨w.heap.size, 0, #[], rfl, Nat.le_refl _, heap_alloc_new _ _, Nat.le_refl _, Nat.zero_le _, rfl, rfl⟩⟩
    have HC : Aside0 (∀ j u, (flat R)[j]? = some u → (w.alloc (.cells #[] 91)).cell? ((⟨g, 0, none⟩ : Addr).add j) = some u) := ⟨fun j u hu => by rw [add0]; exact cell_alloc (own_cell HH.out j u hu)⟩
    generalize hRl : R.length = n at *
    have HRL := Aside0.mk hRl
    clear hRl
    go_wp2_with (at_builtin; refine wpList_append_at rfl (.tmp 5) (.tmp 6) 88 rfl w.heap.size 91 i0 _ 2 16 Try.underlying88 HZ.out HZ0.out HZ1.out HZ2.out rfl (by decide) (.slice (some ⟨w.heap.size, 0, none⟩) 0 0) 0 [] rfl HE.out ⟨g, 0, none⟩ n cap (flat R) rfl HFL.out HC.out HF1.out (by unfold maxLen; omega) (by omega) (by simp) ?_; intro v' w' hown hgrow hloc; have HO := Aside0.mk hown; have HG := Aside0.mk hgrow; clear hown hgrow hloc)
    obtain ⟨a2, cap2, hv2, _⟩ := own_slice HO.out
    subst hv2
    go_ret
    refine ⟨_, rfl, by simpa using HO.out, ((Kp.refl w _).alloc _).then_ (kp_grown HG.out) (fun k hk => .inr ?_)⟩
    cases hk
    exact Nat.le_refl _
theorem runs_calls {w : World} {base p : Nat} {sv : Value} {R : List Run} (h : SetAt w base p sv R) (hl : R.length ≤ 4398046511104) :
    Calls Try.prog 70 #[.pointer (some ⟨p, 0, none⟩)] w fun e w' => ∃ v, e = .returned v ∧ w'.ownsRow w.heap.size 91 2 v R.length (flat R) ∧ Kp w w' (fun _ => False) := by
  have H0 := Aside0.mk (sclone_calls h.own hl)
  obtain ⟨a, cap, hsv, _⟩ := own_slice h.own
  subst hsv
  have p1 : w.cell? ⟨p, 0, none⟩ = some (.slice a R.length cap) := (blk_cell h.head 0).trans rfl
  generalize hRl : R.length = n at *
  clear h hl
  go_enter Try.func70, Try.ntmps70
  go_wp2_with fail
  refine H0.out.mono ?_
  rintro e w' ⟨v, rfl, h2, h3⟩
  obtain ⟨a2, cap2, hv2, _⟩ := own_slice h2
  subst hv2
  have HO := Aside0.mk h2
  have HK := Aside0.mk h3
  clear h2 h3
  go_wp2
  go_ret
  exact ⟨_, rfl, HO.out, HK.out⟩
theorem clone_calls {w : World} {base p : Nat} {sv : Value} {R : List Run} (h : SetAt w base p sv R) (hl : R.length ≤ 4398046511104) :
    Calls Try.prog 47 #[.pointer (some ⟨p, 0, none⟩)] w fun e w' => ∃ q sv', e = .returned (.pointer (some ⟨q, 0, none⟩)) ∧ SetAt w' w.heap.size q sv' R ∧ Kp w w' (fun _ => False) ∧ sv'.ownBlock ≠ some q := by
  have H0 := Aside0.mk (runs_calls h hl)
  have HGD := Aside0.mk h.good
  generalize hRl : R.length = n at *
  have HRL := Aside0.mk hRl
  clear h hl hRl
  go_enter Try.func47, Try.ntmps47
  go_wp2_with fail
  refine H0.out.mono ?_
  rintro e w1 ⟨v, rfl, h2, h3⟩
  obtain ⟨a2, cap2, hv2, _⟩ := own_slice h2
  subst hv2
  have HO := Aside0.mk h2
  have HK := Aside0.mk h3
  clear h2 h3
  go_wp2
  go_ret
  refine ⟨w1.heap.size, _, rfl, ⟨heap_alloc_new _ _, ?_, HGD.out, HK.out.size⟩, HK.out.alloc _, fun e => ?_⟩
  · rw [HRL.out]; exact row_kp HO.out ((Kp.refl _ _).alloc _) (fun _ _ h => h)
  · have := (row_blk HO.out e).2; omega
theorem flat_inj {R S : List Run} (h : flat R = flat S) : R = S := by
  induction R generalizing S with
  | nil =>
    cases S with
    | nil => rfl
    | cons s S => rw [flat_nil, flat_cons] at h; cases h
  | cons r R ih =>
    cases S with
    | nil => rw [flat_nil, flat_cons] at h; cases h
    | cons s S =>
      rw [flat_cons, flat_cons] at h
      injection h with h1 h2
      injection h2 with h2 h3
      injection h1 with _ h1
      injection h2 with _ h2
      rw [ih h3, Prod.ext h1 h2]
theorem equal_calls {w : World} {base b2 : Nat} {sv tv : Value} {R S : List Run} (h : w.ownsRow base 91 2 sv R.length (flat R)) (h2 : w.ownsRow b2 91 2 tv S.length (flat S)) (hl : R.length ≤ 4398046511104) (hl2 : S.length ≤ 4398046511104) :
    Calls Try.prog 71 #[sv, tv] w fun e w' => e = .returned (.bool (decide (R = S))) ∧ ∃ n, w' = w.drewN n := by
  obtain ⟨a, cap, hsv, _⟩ := own_slice h
  obtain ⟨a2, cap2, htv, _⟩ := own_slice h2
  subst hsv htv
  by_cases hlen : R.length = S.length
  · have HR := Aside0.mk h
    have HS := Aside0.mk h2
    have HRL := Aside0.mk hlen
    rw [← hlen]
    obtain ⟨n, hn⟩ : ∃ n, R.length = n := ⟨_, rfl⟩
    have HN := Aside0.mk hn
    rw [hn] at hl ⊢
    clear h h2 hl2 hlen hn
    have ht : ((n : Int) != (n : Int)) = false := by simp
    go_enter Try.func71, Try.ntmps71
    go_wp2
    go_loopw [13] (fun iv wr => ∃ k : Nat, k ≤ n ∧ iv = .int .i64 k ∧ Aside0 (R.take k = S.take k) ∧ Aside0 (∃ m, wr = w.drewN m)) (fun iv _ => n - (intOf iv).toNat)
    case atStart => exact ⟨0, by omega, rfl, ⟨rfl⟩, ⟨0, rfl⟩⟩
    case round =>
      obtain ⟨k, hk, rfl, HF, HW⟩ := hrel
      by_cases hlt : k < n
      · have hr : R[k]? = some (R.getD k (0, 0)) := by rw [List.getElem?_eq_getElem (by rw [HN.out]; exact hlt)]; simp [HN.out, hlt]
        have hs : S[k]? = some (S.getD k (0, 0)) := by rw [List.getElem?_eq_getElem (by rw [← HRL.out, HN.out]; exact hlt)]; simp [← HRL.out, HN.out, hlt]
        obtain ⟨g, hg, c1, c2⟩ := run_cells HR.out hr
        obtain ⟨g2, hg2, d1, d2⟩ := run_cells HS.out hs
        subst hg hg2
        obtain ⟨m, hm⟩ := HW.out
        have c1 : wr.cell? ⟨g, k * 2, none⟩ = some (.int .i64 (R.getD k (0, 0)).1) := by rw [hm]; exact c1
        have c2 : wr.cell? ⟨g, k * 2 + 1, none⟩ = some (.int .i64 (R.getD k (0, 0)).2) := by rw [hm]; exact c2
        have d1 : wr.cell? ⟨g2, k * 2, none⟩ = some (.int .i64 (S.getD k (0, 0)).1) := by rw [hm]; exact d1
        have d2 : wr.cell? ⟨g2, k * 2 + 1, none⟩ = some (.int .i64 (S.getD k (0, 0)).2) := by rw [hm]; exact d2
        have HST : Aside0 (R.getD k (0, 0) = S.getD k (0, 0) → R.take (k + 1) = S.take (k + 1)) := ⟨fun he => by
          rw [List.take_add_one, List.take_add_one, HF.out, hr, hs, he]⟩
        have HNE : Aside0 (R.getD k (0, 0) ≠ S.getD k (0, 0) → R ≠ S) := ⟨fun he e => he (by rw [e])⟩
        have HM := Aside0.mk hm
        generalize R.getD k (0, 0) = r at *
        generalize S.getD k (0, 0) = s at *
        obtain ⟨r1, r2⟩ := r
        obtain ⟨s1, s2⟩ := s
        simp only at c1 c2 d1 d2
        clear hr hs hm HW
        have k0 : (0 : Int) ≤ (k : Int) := by omega
        have k1 : (k : Int) < (n : Int) := by omega
        by_cases e1 : r1 = s1
        · by_cases e2 : r2 = s2
          · subst e1 e2
            go_wp2
            go_quiet (fail)
            go_wp2
            go_roundw
            case measure => simp [intOf]; omega
            case rel => exact ⟨k + 1, by omega, by go_num, ⟨HST.out (by simp)⟩, ⟨m + nq, by rw [HM.out, World.drewN_drewN]⟩⟩
          · have e3 : (r2 == s2) = false := by simpa using e2
            subst e1
            have HF2 : Aside0 (decide (R = S) = false) := ⟨decide_eq_false (HNE.out (fun e => e2 (by injection e)))⟩
            clear e2
            go_wp2
            go_quiet (fail)
            go_wp2
            go_ret
            exact ⟨by rw [HF2.out]; rfl, m + nq, by rw [HM.out, World.drewN_drewN]⟩
        · have e3 : (r1 == s1) = false := by simpa using e1
          have HF2 : Aside0 (decide (R = S) = false) := ⟨decide_eq_false (HNE.out (fun e => e1 (by injection e)))⟩
          clear e1
          go_wp2
          go_quiet (fail)
          go_wp2
          go_ret
          exact ⟨by rw [HF2.out]; rfl, m + nq, by rw [HM.out, World.drewN_drewN]⟩
      · obtain rfl : k = n := by omega
        have hfin : decide (R = S) = true := decide_eq_true (by
          have := HF.out
          rw [← HN.out, List.take_length, HRL.out, List.take_length] at this
          exact this)
        have HF2 := Aside0.mk hfin
        clear hfin
        go_wp2
        go_ret
        exact ⟨by rw [HF2.out]; rfl, HW.out⟩
  · have hfin : decide (R = S) = false := decide_eq_false (fun e => hlen (by rw [e]))
    rw [hfin]
    have t1 : ((R.length : Int) != (S.length : Int)) = true := by simp; omega
    have t2 : ((R.length : Int) == (S.length : Int)) = false := by simp; omega
    clear hfin h h2
    generalize R.length = n at *
    generalize S.length = m at *
    go_enter Try.func71, Try.ntmps71
    go_wp2
    go_ret
    exact ⟨rfl, 0, rfl⟩
theorem same_calls {w : World} {base b2 p q : Nat} {sv tv : Value} {R S : List Run} (h : SetAt w base p sv R) (h2 : SetAt w b2 q tv S) (hl : R.length ≤ 4398046511104) (hl2 : S.length ≤ 4398046511104) :
    Calls Try.prog 48 #[.pointer (some ⟨p, 0, none⟩), .pointer (some ⟨q, 0, none⟩)] w fun e w' => e = .returned (.bool (decide (R = S))) ∧ ∃ n, w' = w.drewN n := by
  have H0 := Aside0.mk (fun n => equal_calls (w := w.drewN n) h.own h2.own hl hl2)
  obtain ⟨a, cap, hsv, _⟩ := own_slice h.own
  obtain ⟨a2, cap2, htv, _⟩ := own_slice h2.own
  subst hsv htv
  have p1 : w.cell? ⟨p, 0, none⟩ = some (.slice a R.length cap) := (blk_cell h.head 0).trans rfl
  have p2 : w.cell? ⟨q, 0, none⟩ = some (.slice a2 S.length cap2) := (blk_cell h2.head 0).trans rfl
  generalize R.length = n at *
  generalize S.length = m at *
  clear h h2 hl hl2
  go_enter Try.func48, Try.ntmps48
  go_wp2
  go_quiet ((go_at_call 71; exact Calls.quiet_of (H0.out _)))
  go_wp2
  go_ret
  exact ⟨rfl, nq, rfl⟩
end Go.Proofs.Ytbaciaolhfmfkaa.Si64
