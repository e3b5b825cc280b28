/- This text proves the law SlotsFull as a walk: true whatever the size and the thing. -/
import Derived.Test.YtiocnkoogachkaaSw
import Derived.Test.YtiocnkoogachkaaTci
import Derived.DataShut
namespace Go.Proofs.Ytiocnkoogachkaa.Sf
open Go.RowKit Go.Proofs.YtiocnkoogachkaaW.PrintWords Go.Proofs.Ytiocnkoogachkaa.Mp Go.Proofs.Ytiocnkoogachkaa.Hp Go.Proofs.Ytiocnkoogachkaa.Tg Go.Proofs.Ytiocnkoogachkaa.Sw
set_option linter.unusedVariables false
/-- The places where those above i hold x. -/
def PsF (x : Int) (n i : Nat) : List (It Int Bool) := if i = n then [] else List.replicate i ⟨Ti.Z, false, 0⟩ ++ List.replicate (n - i) ⟨x, true, 0⟩
theorem psf_zero (x : Int) (n : Nat) : PsF x n 0 = List.replicate n ⟨x, true, 0⟩ := by
  unfold PsF
  split
  · rename_i h; rw [← h]; rfl
  · simp
theorem psf_get {x : Int} {n i : Nat} (hi : 0 < i) (hn : i ≤ n) (p : It Int Bool) (h : (PsF x n i)[i - 1]? = some p) : p.rank = false := by
  unfold PsF at h
  split at h
  · simp at h
  · rw [List.getElem?_append_left (by simp; omega), List.getElem?_replicate_of_lt (by omega)] at h
    cases h
    rfl
theorem psf_free {x : Int} {n i : Nat} (hi : 0 < i) (hn : i ≤ n) : freeOf (PsF x n i) n = 1 := by
  unfold PsF
  split
  · simp [freeOf]; omega
  · obtain ⟨k, rfl⟩ : ∃ k, i = k + 1 := ⟨i - 1, by omega⟩
    rw [List.replicate_succ]
    rfl
theorem psf_set {x : Int} {n i : Nat} (hi : 0 < i) (hn : i ≤ n) : (ext Ti.Z (PsF x n i) i).set (i - 1) ⟨x, true, 0⟩ = PsF x n (i - 1) := by
  obtain ⟨k, rfl⟩ : ∃ k, i = k + 1 := ⟨i - 1, by omega⟩
  rw [Nat.add_sub_cancel]
  have hr : PsF x n k = List.replicate k ⟨Ti.Z, false, 0⟩ ++ List.replicate (n - k) ⟨x, true, 0⟩ := by unfold PsF; rw [if_neg (by omega)]
  rw [hr]
  have key : ∀ l : List (It Int Bool), (List.replicate (k + 1) (⟨Ti.Z, false, 0⟩ : It Int Bool) ++ l).set k ⟨x, true, 0⟩ = List.replicate k ⟨Ti.Z, false, 0⟩ ++ (⟨x, true, 0⟩ :: l) := fun l => by
    rw [List.replicate_succ', List.append_assoc, List.set_append, if_neg (by simp)]
    simp
  unfold PsF
  split
  · rename_i h
    subst h
    have := key []
    rw [List.append_nil] at this
    rw [show ext Ti.Z [] (k + 1) = List.replicate (k + 1) (⟨Ti.Z, false, 0⟩ : It Int Bool) by simp [ext], this, show k + 1 - k = 1 by omega]
    rfl
  · rw [ext_old _ _ (by simp), key, show n - k = n - (k + 1) + 1 by omega, List.replicate_succ]
theorem full_free (x : Int) (n : Nat) : freeOf (List.replicate n (⟨x, true, 0⟩ : It Int Bool)) n = 0 := by
  have : (List.replicate n (⟨x, true, 0⟩ : It Int Bool)).findIdx? (fun x => !x.rank) = none := by
    rw [List.findIdx?_eq_none_iff]
    intro y hy
    rw [(List.mem_replicate.1 hy).2]
    rfl
  unfold freeOf
  rw [this]
  simp
theorem psf_held {x : Int} {n i : Nat} (hi : 0 < i) (hn : i ≤ n) : (PsF x n (i - 1))[i - 1]? = some ⟨x, true, 0⟩ := by
  unfold PsF
  rw [if_neg (by omega), List.getElem?_append_right (by simp), List.getElem?_replicate_of_lt (by simp; omega)]
set_option maxHeartbeats 4000000 in
set_option maxRecDepth 100000 in
theorem full_calls (most x : Int) (w : World) (h0 : -9223372036854775808 ≤ most) (h1 : most ≤ 9223372036854775807) :
    Calls Try.prog 4 #[.int .i64 most, .int .i64 x] w fun e w' => e = .returned (.bool true) ∧ Kp w w' (fun _ => False) := by
  by_cases hm : 200 < most
  · have t0 : decide ((200 : Int) < most) = true := decide_eq_true hm
    have hmod0 := Int.emod_nonneg (most - 200) (show (7 : Int) ≠ 0 by omega)
    have hmod1 := Int.emod_lt_of_pos (most - 200) (show (0 : Int) < 7 by omega)
    have htm : (most - 200).tmod 7 = (most - 200) % 7 := Int.tmod_eq_emod_of_nonneg (by omega)
    go_enter Try.func4, Try.ntmps4
    go_wp2_with fail
    obtain ⟨mm, hmm⟩ : ∃ mm, 200 + (most - 200) % 7 = mm := ⟨_, rfl⟩
    obtain ⟨n, hn⟩ : ∃ n : Nat, max 0 mm = (n : Int) := ⟨(max 0 mm).toNat, by omega⟩
    have hn2 : n ≤ 206 := by omega
    have hcl : Ti.clamp mm = n := by unfold Ti.clamp; omega
    have hif : (if (0 : Int) < mm then mm else 0) = (n : Int) := by omega
    rw [hmm]
    clear t0 hmod0 hmod1 htm hm hn h0 h1 hmm
    refine (Ti.new_calls mm w).mono ?_
    rintro e w1 ⟨tb, S1, rfl, h1⟩
    rw [hcl] at h1
    have H1 := Aside0.mk h1
    clear h1 hcl
    go_wp2_with fail
    refine (awake_calls w1).mono ?_
    rintro e w2 ⟨rfl, K2⟩
    obtain ⟨S2, h2, _⟩ := H1.out.quiet K2
    have H2 : Aside0 (∃ S, St Ti.PF w w2 tb (w.heap.size + 1) w.heap.size Ti.LV Ti.Z n (PsF x n n) n ((n : Int) - (n : Int)) S) := ⟨⟨S2, by rw [Int.sub_self]; unfold PsF; rw [if_pos rfl]; exact h2⟩⟩
    clear h2 H1 K2
    go_wp2_with fail
    go_loopw [7] (fun kv wr => ∃ i : Nat, i ≤ n ∧ kv = .int .i64 i ∧ Aside0 (∃ S, St Ti.PF w wr tb (w.heap.size + 1) w.heap.size Ti.LV Ti.Z n (PsF x n i) n ((n : Int) - (i : Int)) S)) (fun kv _ => (intOf kv).toNat)
    case atStart => exact ⟨n, Nat.le_refl _, rfl, H2⟩
    case round =>
      clear H2
      obtain ⟨i, hi, rfl, HS⟩ := hrel
      rcases Nat.eq_zero_or_pos i with rfl | hpos
      · obtain ⟨S3, h3⟩ := HS.out
        rw [psf_zero] at h3
        have h3' : St Ti.PF w wr tb (w.heap.size + 1) w.heap.size Ti.LV Ti.Z n (List.replicate n ⟨x, true, 0⟩) n (n : Int) S3 := by
          have := h3
          rwa [show (n : Int) - ((0 : Nat) : Int) = n by omega] at this
        have H3 := Aside0.mk h3'
        have HF := Aside0.mk (full_free x n)
        clear h3 h3' HS
        go_wp2_with fail
        refine (Ti.put_no H3.out HF.out x).mono ?_
        rintro e w4 ⟨rfl, S4, h4, _⟩
        have H4 := Aside0.mk h4
        clear h4 H3
        go_wp2_with fail
        refine (Ti.free_st H4.out).mono ?_
        rintro e w5 ⟨rfl, S5, h5, _⟩
        have H5 := Aside0.mk h5
        rw [HF.out]
        clear h5 H4
        go_wp2_with fail
        refine (Ti.len_st H5.out).mono ?_
        rintro e w6 ⟨rfl, rfl⟩
        go_wp2_with fail
        refine (Ti.putAt_bad H5.out (.inr (by omega)) x).mono ?_
        rintro e w6 ⟨rfl, rfl⟩
        go_wp2_with fail
        refine (Ti.putAt_bad H5.out (.inl (by omega)) x).mono ?_
        rintro e w6 ⟨rfl, rfl⟩
        go_wp2
        go_ret
        exact ⟨rfl, H5.out.kept⟩
      · obtain ⟨k, rfl⟩ : ∃ k, i = k + 1 := ⟨i - 1, by omega⟩
        obtain ⟨S3, h3⟩ := HS.out
        have H3 := Aside0.mk h3
        have HG : Aside0 (∀ p, (PsF x n (k + 1))[k]? = some p → p.rank = false) := ⟨fun p hp => psf_get (i := k + 1) (by omega) hi p hp⟩
        have HE : Aside0 ((ext Ti.Z (PsF x n (k + 1)) (k + 1)).set k ⟨x, true, 0⟩ = PsF x n k) := ⟨psf_set (i := k + 1) (by omega) hi⟩
        have HH : Aside0 ((PsF x n k)[k]? = some ⟨x, true, 0⟩) := ⟨psf_held (i := k + 1) (by omega) hi⟩
        have HF : Aside0 ((freeOf (PsF x n (k + 1)) n : Int) = 1) := ⟨by rw [psf_free (by omega) hi]; rfl⟩
        have t1 : decide ((1 : Int) ≤ (k : Int) + 1) = true := decide_eq_true (by omega)
        clear h3 HS hpos
        go_wp2_with fail
        refine (Ti.free_st H3.out).mono ?_
        rintro e w4 ⟨rfl, S4, h4, _⟩
        have H4 := Aside0.mk h4
        rw [HF.out]
        clear h4 H3 HF
        go_wp2_with fail
        refine (Ti.putAt_ok H4.out (j := k) (by omega) HG.out (by omega) x).mono ?_
        rintro e w5 ⟨rfl, S5, h5, _⟩
        rw [HE.out] at h5
        have H5 := Aside0.mk h5
        clear h5 H4 HG HE
        go_wp2_with fail
        refine (Ti.putAt_held H5.out (j := k) HH.out rfl x).mono ?_
        rintro e w6 ⟨rfl, rfl⟩
        have FIN : Aside0 (∃ S, St Ti.PF w w5 tb (w.heap.size + 1) w.heap.size Ti.LV Ti.Z n (PsF x n k) n ((n : Int) - (k : Int)) S) := ⟨⟨S5, by
          have := H5.out
          rwa [show (n : Int) - ((k + 1 : Nat) : Int) + 1 = (n : Int) - (k : Int) by omega] at this⟩⟩
        clear H5 HH
        go_wp2
        go_roundw
        case measure => simp [intOf]
        case rel => exact ⟨k, by omega, by go_num, FIN⟩
  · have t0 : decide ((200 : Int) < most) = false := decide_eq_false hm
    go_enter Try.func4, Try.ntmps4
    go_wp2_with fail
    obtain ⟨mm, hmm⟩ : ∃ mm, most = mm := ⟨_, rfl⟩
    obtain ⟨n, hn⟩ : ∃ n : Nat, max 0 mm = (n : Int) := ⟨(max 0 mm).toNat, by omega⟩
    have hn2 : n ≤ 206 := by omega
    have hcl : Ti.clamp mm = n := by unfold Ti.clamp; omega
    have hif : (if (0 : Int) < mm then mm else 0) = (n : Int) := by omega
    rw [hmm]
    clear t0 hm hn h0 h1 hmm
    refine (Ti.new_calls mm w).mono ?_
    rintro e w1 ⟨tb, S1, rfl, h1⟩
    rw [hcl] at h1
    have H1 := Aside0.mk h1
    clear h1 hcl
    go_wp2_with fail
    refine (awake_calls w1).mono ?_
    rintro e w2 ⟨rfl, K2⟩
    obtain ⟨S2, h2, _⟩ := H1.out.quiet K2
    have H2 : Aside0 (∃ S, St Ti.PF w w2 tb (w.heap.size + 1) w.heap.size Ti.LV Ti.Z n (PsF x n n) n ((n : Int) - (n : Int)) S) := ⟨⟨S2, by rw [Int.sub_self]; unfold PsF; rw [if_pos rfl]; exact h2⟩⟩
    clear h2 H1 K2
    go_wp2_with fail
    go_loopw [7] (fun kv wr => ∃ i : Nat, i ≤ n ∧ kv = .int .i64 i ∧ Aside0 (∃ S, St Ti.PF w wr tb (w.heap.size + 1) w.heap.size Ti.LV Ti.Z n (PsF x n i) n ((n : Int) - (i : Int)) S)) (fun kv _ => (intOf kv).toNat)
    case atStart => exact ⟨n, Nat.le_refl _, rfl, H2⟩
    case round =>
      clear H2
      obtain ⟨i, hi, rfl, HS⟩ := hrel
      rcases Nat.eq_zero_or_pos i with rfl | hpos
      · obtain ⟨S3, h3⟩ := HS.out
        rw [psf_zero] at h3
        have h3' : St Ti.PF w wr tb (w.heap.size + 1) w.heap.size Ti.LV Ti.Z n (List.replicate n ⟨x, true, 0⟩) n (n : Int) S3 := by
          have := h3
          rwa [show (n : Int) - ((0 : Nat) : Int) = n by omega] at this
        have H3 := Aside0.mk h3'
        have HF := Aside0.mk (full_free x n)
        clear h3 h3' HS
        go_wp2_with fail
        refine (Ti.put_no H3.out HF.out x).mono ?_
        rintro e w4 ⟨rfl, S4, h4, _⟩
        have H4 := Aside0.mk h4
        clear h4 H3
        go_wp2_with fail
        refine (Ti.free_st H4.out).mono ?_
        rintro e w5 ⟨rfl, S5, h5, _⟩
        have H5 := Aside0.mk h5
        rw [HF.out]
        clear h5 H4
        go_wp2_with fail
        refine (Ti.len_st H5.out).mono ?_
        rintro e w6 ⟨rfl, rfl⟩
        go_wp2_with fail
        refine (Ti.putAt_bad H5.out (.inr (by omega)) x).mono ?_
        rintro e w6 ⟨rfl, rfl⟩
        go_wp2_with fail
        refine (Ti.putAt_bad H5.out (.inl (by omega)) x).mono ?_
        rintro e w6 ⟨rfl, rfl⟩
        go_wp2
        go_ret
        exact ⟨rfl, H5.out.kept⟩
      · obtain ⟨k, rfl⟩ : ∃ k, i = k + 1 := ⟨i - 1, by omega⟩
        obtain ⟨S3, h3⟩ := HS.out
        have H3 := Aside0.mk h3
        have HG : Aside0 (∀ p, (PsF x n (k + 1))[k]? = some p → p.rank = false) := ⟨fun p hp => psf_get (i := k + 1) (by omega) hi p hp⟩
        have HE : Aside0 ((ext Ti.Z (PsF x n (k + 1)) (k + 1)).set k ⟨x, true, 0⟩ = PsF x n k) := ⟨psf_set (i := k + 1) (by omega) hi⟩
        have HH : Aside0 ((PsF x n k)[k]? = some ⟨x, true, 0⟩) := ⟨psf_held (i := k + 1) (by omega) hi⟩
        have HF : Aside0 ((freeOf (PsF x n (k + 1)) n : Int) = 1) := ⟨by rw [psf_free (by omega) hi]; rfl⟩
        have t1 : decide ((1 : Int) ≤ (k : Int) + 1) = true := decide_eq_true (by omega)
        clear h3 HS hpos
        go_wp2_with fail
        refine (Ti.free_st H3.out).mono ?_
        rintro e w4 ⟨rfl, S4, h4, _⟩
        have H4 := Aside0.mk h4
        rw [HF.out]
        clear h4 H3 HF
        go_wp2_with fail
        refine (Ti.putAt_ok H4.out (j := k) (by omega) HG.out (by omega) x).mono ?_
        rintro e w5 ⟨rfl, S5, h5, _⟩
        rw [HE.out] at h5
        have H5 := Aside0.mk h5
        clear h5 H4 HG HE
        go_wp2_with fail
        refine (Ti.putAt_held H5.out (j := k) HH.out rfl x).mono ?_
        rintro e w6 ⟨rfl, rfl⟩
        have FIN : Aside0 (∃ S, St Ti.PF w w5 tb (w.heap.size + 1) w.heap.size Ti.LV Ti.Z n (PsF x n k) n ((n : Int) - (k : Int)) S) := ⟨⟨S5, by
          have := H5.out
          rwa [show (n : Int) - ((k + 1 : Nat) : Int) + 1 = (n : Int) - (k : Int) by omega] at this⟩⟩
        clear H5 HH
        go_wp2
        go_roundw
        case measure => simp [intOf]
        case rel => exact ⟨k, by omega, by go_num, FIN⟩
theorem law_row (most x : Int) (w : World) (h0 : (Lit.int .i64 most).wf = true) (h1 : (Lit.int .i64 x).wf = true) :
    Calls Try.prog 4 #[.int .i64 most, .int .i64 x] w fun e w' => e = .returned (.bool true) ∧ Below w.heap.size w w' :=
  (full_calls most x w ((Lit.wf_int_iff .i64 _).1 h0).1 ((Lit.wf_int_iff .i64 _).1 h0).2).mono fun _ _ h => ⟨h.1, h.2.to_below⟩
end Go.Proofs.Ytiocnkoogachkaa.Sf
