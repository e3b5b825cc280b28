/- This text proves the law SlotsLeast as a walk: true whatever the size and the numbers to be freed. -/
import Derived.Test.YtiocnkoogachkaaSw
import Derived.Test.YtiocnkoogachkaaTci
import Derived.DataShut
namespace Go.Proofs.Ytiocnkoogachkaa.Sl
open Go.RowKit Go.Proofs.YtiocnkoogachkaaW.PrintWords Go.Proofs.Ytiocnkoogachkaa.Mp Go.Proofs.Ytiocnkoogachkaa.Hp Go.Proofs.Ytiocnkoogachkaa.Tg Go.Proofs.Ytiocnkoogachkaa.Sw
set_option linter.unusedVariables false
def it (j : Nat) : It Int Bool := ⟨101 + (j : Int), true, 0⟩
/-- The first n places, all held. -/
def Fl (n : Nat) : List (It Int Bool) := (List.range n).map it
theorem fl_len (n : Nat) : (Fl n).length = n := by simp [Fl]
theorem fl_succ (n : Nat) : Fl (n + 1) = Fl n ++ [it n] := by simp [Fl, List.range_succ]
theorem fl_get {n j : Nat} (h : j < n) : (Fl n)[j]? = some (it j) := by simp [Fl, h]
theorem fl_none (n : Nat) : (Fl n).findIdx? (fun x => !x.rank) = none := by
  rw [List.findIdx?_eq_none_iff]
  intro y hy
  obtain ⟨j, _, rfl⟩ := List.mem_map.1 hy
  rfl
theorem fl_free {n m : Nat} (h : n < m) : freeOf (Fl n) m = n + 1 := by
  unfold freeOf
  rw [fl_none]
  simp only [fl_len, if_pos h]
theorem fl_put (n : Nat) : (ext Ti.Z (Fl n) (n + 1)).set n (it n) = Fl (n + 1) := by
  rw [ext_succ _ _ (by rw [fl_len]; exact Nat.le_refl _), show ext Ti.Z (Fl n) n = Fl n by rw [ext_old]; rw [fl_len]; exact Nat.le_refl _, List.set_append, if_neg (by rw [fl_len]; omega), fl_len, Nat.sub_self, fl_succ]
  rfl
/-- One place freed. -/
abbrev Hole (n j : Nat) : List (It Int Bool) := (Fl n).set j ⟨Ti.Z, false, 0⟩
theorem hole_get {n j : Nat} (h : j < n) : (Hole n j)[j]? = some ⟨Ti.Z, false, 0⟩ := by
  unfold Hole
  rw [List.getElem?_set_self (by rw [fl_len]; exact h)]
theorem hole_free {n j m : Nat} (h : j < n) : freeOf (Hole n j) m = j + 1 := by
  have : (Hole n j).findIdx? (fun x => !x.rank) = some j := by
    rw [List.findIdx?_eq_some_iff_getElem]
    have hl : (Hole n j).length = n := by unfold Hole; rw [List.length_set, fl_len]
    refine ⟨by rw [hl]; exact h, by unfold Hole; simp, fun i hi => ?_⟩
    unfold Hole
    rw [List.getElem_set_ne (by omega)]
    simp [Fl, it]
  unfold freeOf
  rw [this]
theorem hole_put {n j : Nat} (h : j < n) : (ext Ti.Z (Hole n j) (j + 1)).set j (it j) = Fl n := by
  rw [ext_old _ _ (by unfold Hole; rw [List.length_set, fl_len]; exact h)]
  unfold Hole
  rw [List.set_set]
  apply List.ext_getElem?
  intro k
  by_cases e : j = k
  · subst e
    rw [List.getElem?_set_self (by rw [fl_len]; exact h), fl_get h]
  · rw [List.getElem?_set_ne e]
/-- a number of the list, in any later world -/
theorem row_at {w wr : World} {A : Option Addr} {l : List Int} (hr : Kd.C (Kd.int .i64) w A l.length l) (hk : Kp w wr (fun _ => False)) (k : Nat) (h : k < l.length) : ∃ ad, A = some ad ∧ wr.cell? (ad.add k) = some (.int .i64 (l.getD k 0)) := by
  obtain ⟨ad, e, hc⟩ := (Kd.reads_of_C (enc := Value.int .i64) (d := (0 : Int)) (h1 := fun _ => rfl) hr).at_ (k : Int) (by omega) (by omega)
  rw [show rdOf (0 : Int) l k = l.getD k 0 from by simp [rdOf, h], Int.toNat_natCast] at hc
  exact ⟨ad, e, cell_kp hc hk (fun h => h)⟩
set_option maxHeartbeats 4000000 in
set_option maxRecDepth 100000 in
theorem least_calls (most : Int) (A : Option Addr) (cap : Nat) (l : List Int) (w : World) (h0 : -9223372036854775808 ≤ most) (h1 : most ≤ 9223372036854775807) (hr : Kd.C (Kd.int .i64) w A l.length l) (hlw : ∀ n ∈ l, (Lit.int .i64 n).wf = true) :
    Calls Try.prog 3 #[.int .i64 most, .slice A l.length cap] w fun e w' => e = .returned (.bool true) ∧ Kp w w' (fun _ => False) := by
  have hlen : l.length ≤ 9223372036854775807 := hr.2.1
  have HR := Aside0.mk hr
  have HW := Aside0.mk hlw
  obtain ⟨m, hm⟩ : ∃ m, Ti.clamp most = m := ⟨_, rfl⟩
  obtain ⟨n, hn⟩ : ∃ n : Nat, min (max most 0) 50 = (n : Int) := ⟨(min (max most 0) 50).toNat, by omega⟩
  have hnm : n ≤ m := by have := Ti.clamp_eq most; omega
  have hm6 : m ≤ 65536 := by rw [← hm]; exact Ti.clamp_le most
  have hn5 : n ≤ 50 := by omega
  have hx1 : (if most < 0 then (0 : Int) else most) = max most 0 := by omega
  have hx2 : (if (50 : Int) < max most 0 then (50 : Int) else max most 0) = (n : Int) := by omega
  have HM := Aside0.mk hm
  clear hr hlw hn h0 h1 hm
  go_enter Try.func3, Try.ntmps3
  go_wp2_with fail
  refine (Ti.new_calls most w).mono ?_
  rintro e w1 ⟨tb, S1, rfl, h1⟩
  rw [HM.out] at h1
  have H1 := Aside0.mk h1
  clear h1 HM
  go_wp2_with fail
  refine (awake_calls w1).mono ?_
  rintro e w2 ⟨rfl, K2⟩
  obtain ⟨S2, h2, _⟩ := H1.out.quiet K2
  have H2 : Aside0 (∃ S, St Ti.PF w w2 tb (w.heap.size + 1) w.heap.size Ti.LV Ti.Z m (Fl 0) m 0 S) := ⟨⟨S2, h2⟩⟩
  clear h2 H1 K2
  go_wp2_with fail
  go_loopw [6, 7, 8] (fun iv _ _ wr => ∃ i : Nat, i ≤ n ∧ iv = .int .i64 ((i : Int) + 1) ∧ Aside0 (∃ S, St Ti.PF w wr tb (w.heap.size + 1) w.heap.size Ti.LV Ti.Z m (Fl i) m (i : Int) S)) (fun iv _ _ _ => n + 1 - (intOf iv).toNat)
  case atStart => exact ⟨0, Nat.zero_le _, rfl, H2⟩
  case round =>
    clear H2
    obtain ⟨i, hi, rfl, HS⟩ := hrel
    by_cases hlt : i < n
    · obtain ⟨S3, h3⟩ := HS.out
      have H3 := Aside0.mk h3
      have HF : Aside0 (freeOf (Fl i) m = i + 1) := ⟨fl_free (by omega)⟩
      have HP : Aside0 ((ext Ti.Z (Fl i) (i + 1)).set i ⟨100 + ((i : Int) + 1), true, 0⟩ = Fl (i + 1)) := ⟨by rw [← fl_put]; unfold it; rw [show (100 : Int) + ((i : Int) + 1) = 101 + (i : Int) by omega]⟩
      have HN : Aside0 (∀ p, (Fl i)[i]? = some p → p.rank = false) := ⟨fun p hp => by have := (List.getElem?_eq_some_iff.1 hp).1; rw [fl_len] at this; omega⟩
      have t1 : decide ((i : Int) + 1 ≤ (n : Int)) = true := decide_eq_true (by omega)
      clear h3 HS
      go_wp2_with fail
      refine (Ti.put_ok H3.out HF.out (by omega) HN.out (by omega) (100 + ((i : Int) + 1))).mono ?_
      rintro e w4 ⟨rfl, S4, h4, _⟩
      rw [HP.out] at h4
      have FIN : Aside0 (∃ S, St Ti.PF w w4 tb (w.heap.size + 1) w.heap.size Ti.LV Ti.Z m (Fl (i + 1)) m ((i + 1 : Nat) : Int) S) := ⟨⟨S4, h4⟩⟩
      clear h4 H3 HF HP HN
      go_wp2
      go_roundw
      case measure => simp [intOf]; omega
      case rel => exact ⟨i + 1, by omega, by go_num, FIN⟩
    · obtain rfl : i = n := by omega
      have HB : Aside0 (∃ b S, St Ti.PF w wr tb (w.heap.size + 1) w.heap.size Ti.LV Ti.Z m (Fl i) b (i : Int) S ∧ b ≤ m + 0) := ⟨by obtain ⟨S3, h3⟩ := HS.out; exact ⟨m, S3, h3, by omega⟩⟩
      have t1 : decide ((i : Int) + 1 ≤ (i : Int)) = false := decide_eq_false (by omega)
      clear HS
      go_wp2_with fail
      go_loopw [9, 10, 11, 12, 13, 14, 15, 16] (fun kv _ _ _ _ _ _ _ wr => ∃ k : Nat, k ≤ l.length ∧ k ≤ 120 ∧ kv = .int .i64 k ∧ Aside0 (∃ b S, St Ti.PF w wr tb (w.heap.size + 1) w.heap.size Ti.LV Ti.Z m (Fl i) b (i : Int) S ∧ b ≤ m + k)) (fun kv _ _ _ _ _ _ _ _ => l.length - (intOf kv).toNat)
      case atStart => exact ⟨0, Nat.zero_le _, Nat.zero_le _, rfl, HB⟩
      case round =>
        clear HB
        obtain ⟨k, hk1, hk2, rfl, HS⟩ := hrel
        by_cases hlt : k < l.length
        · have t2 : decide ((k : Int) < (l.length : Int)) = true := decide_eq_true (by omega)
          by_cases hlt2 : k < 120
          · have t3 : decide ((k : Int) < 120) = true := decide_eq_true (by omega)
            obtain ⟨b, S3, h3, hb⟩ := HS.out
            obtain ⟨ad, rfl, hc⟩ := row_at HR.out h3.kept k hlt
            have hdw : (Lit.int .i64 (l.getD k 0)).wf = true := HW.out _ (by rw [show l.getD k 0 = l[k] by simp [hlt]]; exact List.getElem_mem hlt)
            have H3 := Aside0.mk h3
            generalize l.getD k 0 = d at *
            have hd0 := ((Lit.wf_int_iff .i64 _).1 hdw).1
            have hd1 := ((Lit.wf_int_iff .i64 _).1 hdw).2
            clear h3 HS hdw
            by_cases hd : 1 ≤ d ∧ d ≤ (i : Int)
            · obtain ⟨j, rfl⟩ : ∃ j : Nat, d = (j : Int) + 1 := ⟨(d - 1).toNat, by omega⟩
              have hj : j < i := by omega
              have hit : (it j).key = 100 + ((j : Int) + 1) := by unfold it; simp only; omega
              have HG : Aside0 ((Fl i)[j]? = some (it j)) := ⟨fl_get hj⟩
              have HG2 : Aside0 ((Hole i j)[j]? = some ⟨Ti.Z, false, 0⟩) := ⟨hole_get hj⟩
              have HF : Aside0 ((freeOf (Hole i j) m : Int) = (j : Int) + 1) := ⟨by rw [hole_free hj]; rfl⟩
              have HF2 : Aside0 (freeOf (Hole i j) m = j + 1) := ⟨hole_free hj⟩
              have HP : Aside0 ((ext Ti.Z (Hole i j) (j + 1)).set j ⟨100 + ((j : Int) + 1), true, 0⟩ = Fl i) := ⟨by rw [← hole_put hj]; unfold it; rw [show (100 : Int) + ((j : Int) + 1) = 101 + (j : Int) by omega]⟩
              have HN : Aside0 (∀ p, (Hole i j)[j]? = some p → p.rank = false) := ⟨fun p hp => by rw [hole_get hj] at hp; cases hp; rfl⟩
              have HI := Aside0.mk hit
              have t4 : decide ((1 : Int) ≤ (j : Int) + 1) = true := decide_eq_true (by omega)
              have t5 : decide ((j : Int) + 1 ≤ (i : Int)) = true := decide_eq_true (by omega)
              clear hit
              go_wp2_with fail
              refine (Ti.drop_ok H3.out HG.out rfl (by omega)).mono ?_
              rintro e w4 ⟨rfl, S4, h4, _⟩
              rw [HI.out]
              have H4 : Aside0 (St Ti.PF w w4 tb (w.heap.size + 1) w.heap.size Ti.LV Ti.Z m (Hole i j) (b + 1) ((i : Int) - 1) S4) := ⟨h4⟩
              clear h4 H3 HG hc
              go_wp2_with fail
              refine (Ti.at_st H4.out HG2.out).mono ?_
              rintro e w5 ⟨rfl, S5, h5, _⟩
              have H5 := Aside0.mk h5
              clear h5 H4 HG2
              go_wp2_with fail
              refine (Ti.free_st H5.out).mono ?_
              rintro e w6 ⟨rfl, S6, h6, _⟩
              have H6 := Aside0.mk h6
              rw [HF.out]
              clear h6 H5 HF
              go_wp2_with fail
              refine (Ti.len_st H6.out).mono ?_
              rintro e w7 ⟨rfl, rfl⟩
              go_wp2_with fail
              refine (Ti.put_ok H6.out HF2.out (by omega) HN.out (by omega) (100 + ((j : Int) + 1))).mono ?_
              rintro e w7 ⟨rfl, S7, h7, _⟩
              rw [HP.out] at h7
              have H7 : Aside0 (St Ti.PF w w7 tb (w.heap.size + 1) w.heap.size Ti.LV Ti.Z m (Fl i) (b + 1) (i : Int) S7) := ⟨by rwa [show (i : Int) - 1 + 1 = (i : Int) by omega] at h7⟩
              clear h7 H6 HF2 HP HN
              go_wp2_with fail
              refine (Ti.len_st H7.out).mono ?_
              rintro e w8 ⟨rfl, rfl⟩
              have FIN : Aside0 (∃ b S, St Ti.PF w w7 tb (w.heap.size + 1) w.heap.size Ti.LV Ti.Z m (Fl i) b (i : Int) S ∧ b ≤ m + (k + 1)) := ⟨⟨b + 1, S7, H7.out, by omega⟩⟩
              clear H7
              go_wp2
              go_roundw
              case measure => simp [intOf]; omega
              case rel => exact ⟨k + 1, by omega, by omega, by go_num, FIN⟩
            · have HD : Aside0 (d < 1 ∨ ((Fl i).length : Int) < d) := ⟨by rw [fl_len]; omega⟩
              by_cases hd2 : d < 1
              · have t4 : decide ((1 : Int) ≤ d) = false := decide_eq_false (by omega)
                have t5 : True := trivial
                clear hd hd2
                go_wp2_with fail
                refine (Ti.drop_no H3.out (.inl HD.out)).mono ?_
                rintro e w4 ⟨rfl, S4, h4, _⟩
                have FIN : Aside0 (∃ b S, St Ti.PF w w4 tb (w.heap.size + 1) w.heap.size Ti.LV Ti.Z m (Fl i) b (i : Int) S ∧ b ≤ m + (k + 1)) := ⟨⟨b, S4, h4, by omega⟩⟩
                clear h4 H3 HD
                go_wp2
                go_roundw
                case measure => simp [intOf]; omega
                case rel => exact ⟨k + 1, by omega, by omega, by go_num, FIN⟩
              · have t4 : decide ((1 : Int) ≤ d) = true := decide_eq_true (by omega)
                have t5 : decide (d ≤ (i : Int)) = false := decide_eq_false (by omega)
                clear hd hd2
                go_wp2_with fail
                refine (Ti.drop_no H3.out (.inl HD.out)).mono ?_
                rintro e w4 ⟨rfl, S4, h4, _⟩
                have FIN : Aside0 (∃ b S, St Ti.PF w w4 tb (w.heap.size + 1) w.heap.size Ti.LV Ti.Z m (Fl i) b (i : Int) S ∧ b ≤ m + (k + 1)) := ⟨⟨b, S4, h4, by omega⟩⟩
                clear h4 H3 HD
                go_wp2
                go_roundw
                case measure => simp [intOf]; omega
                case rel => exact ⟨k + 1, by omega, by omega, by go_num, FIN⟩
          · have t3 : decide ((k : Int) < 120) = false := decide_eq_false (by omega)
            obtain ⟨b, S3, h3, hb⟩ := HS.out
            have H3 := Aside0.mk h3
            clear h3 HS
            go_wp2_with fail
            refine (Ti.len_st H3.out).mono ?_
            rintro e w4 ⟨rfl, rfl⟩
            go_wp2
            go_ret
            exact ⟨rfl, H3.out.kept⟩
        · have t2 : decide ((k : Int) < (l.length : Int)) = false := decide_eq_false (by omega)
          obtain ⟨b, S3, h3, hb⟩ := HS.out
          have H3 := Aside0.mk h3
          clear h3 HS
          go_wp2_with fail
          refine (Ti.len_st H3.out).mono ?_
          rintro e w4 ⟨rfl, rfl⟩
          go_wp2
          go_ret
          exact ⟨rfl, H3.out.kept⟩
theorem law_row (most : Int) (A : Option Addr) (cap : Nat) (l : List Int) (w : World) (h0 : (Lit.int .i64 most).wf = true) (hr : Kd.C (Kd.int .i64) w A l.length l) (_ : l.length ≤ cap) (hw : ∀ n ∈ l, (Lit.int .i64 n).wf = true) (_ : l.length * 8 ≤ 140737488351232) :
    Calls Try.prog 3 #[.int .i64 most, .slice A l.length cap] w fun e w' => e = .returned (.bool true) ∧ Below w.heap.size w w' :=
  (least_calls most A cap l w ((Lit.wf_int_iff .i64 _).1 h0).1 ((Lit.wf_int_iff .i64 _).1 h0).2 hr hw).mono fun _ _ h => ⟨h.1, h.2.to_below⟩
end Go.Proofs.Ytiocnkoogachkaa.Sl
