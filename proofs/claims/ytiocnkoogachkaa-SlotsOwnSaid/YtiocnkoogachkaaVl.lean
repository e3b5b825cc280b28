/- This text proves the law SlotsPlays as a walk: every call over a table of any size answers as the plain list does. -/
import Derived.Test.YtiocnkoogachkaaVw
import Derived.Test.YtiocnkoogachkaaSw
import Derived.DataShut
import Derived.Test.YtiocnkoogachkaaOp
namespace Go.Proofs.Ytiocnkoogachkaa.Vp
open Go.RowKit Go.Proofs.YtiocnkoogachkaaW.PrintWords Go.Proofs.YtiocnkoogachkaaW.PrintLast Go.Proofs.Ytiocnkoogachkaa.Mp Go.Proofs.Ytiocnkoogachkaa.Hp Go.Proofs.Ytiocnkoogachkaa.Tg Go.Proofs.Ytiocnkoogachkaa.Rs Go.Proofs.Ytiocnkoogachkaa.PSlotsPlays Go.Proofs.Ytiocnkoogachkaa.Us Go.Proofs.Ytiocnkoogachkaa.Sw
set_option linter.unusedVariables false
set_option linter.unusedSimpArgs false
theorem play_calls {w0 w : World} {tb hb pb m b : Nat} {Ps : List (It Int Bool)} {held : Int} {S : Nat → Prop} {M : List S47} {A : Option Addr} {c : Nat} (h : Pq w0 w tb hb pb m Ps b held S (.slice A M.length c) M) (hb1 : b < 1000000) (kd i x : Int) :
    Calls Try.prog 16 #[.pointer (some ⟨tb, 0, none⟩), .agg #[.int .i64 m, .slice A M.length c], .agg #[.int .i64 kd, .int .i64 i, .int .i64 x]] w fun e w' => Out w0 w w' tb hb pb m b S e := by
  by_cases k1 : kd = 1
  · subst k1; exact play1 h hb1 i x
  by_cases k2 : kd = 2
  · subst k2; exact play2 h hb1 i x
  by_cases k3 : kd = 3
  · subst k3; exact play3 h hb1 i x
  by_cases k4 : kd = 4
  · subst k4; exact play4 h hb1 i x
  by_cases k5 : kd = 5
  · subst k5; exact play5 h hb1 i x
  by_cases k6 : kd = 6
  · subst k6; exact play6 h hb1 i x
  exact play0 h hb1 k1 k2 k3 k4 k5 k6 i x
/-- The law's state: both, and the box that holds the reference's value. -/
def Lw (w wr : World) (tb bx m k : Nat) : Prop := ∃ (Ps : List (It Int Bool)) (held : Int) (S : Nat → Prop) (M : List S47) (A : Option Addr) (c : Nat), Pq w wr tb (w.heap.size + 1) w.heap.size m Ps (m + k) held S (.slice A M.length c) M ∧ wr.heap[bx]? = some (.cells #[.int .i64 m, .slice A M.length c] 34 (0, 0)) ∧ ¬ S bx ∧ w.heap.size ≤ bx
theorem addn (a : Addr) (i j : Nat) (hj : 0 < j) : a.add (i + j) = ⟨(a.add i).block, (a.add i).off + j, none⟩ := by
  have h : ∀ b : Addr, b.add j = ⟨b.block, b.off + j, none⟩ := fun b => by unfold Addr.add; rw [if_neg (by omega)]
  rw [← Addr.add_add]
  exact h _
theorem clamp_mn (most : Int) : mn (mx most 0) 65536 = (Ti.clamp most : Int) := by
  rw [Ti.clamp_eq]
  unfold mn mx
  omega
set_option maxHeartbeats 4000000 in
set_option maxRecDepth 100000 in
theorem plays_calls (most : Int) (A : Option Addr) (len cap : Nat) (T : Nat → Int × Int × Int) (w : World) (hl : len ≤ cap) (hm : cap ≤ maxLen) (hT : ∀ i, i < len → ∃ a, A = some a ∧ w.cell? (a.add (i * 3)) = some (.int .i64 (T i).1) ∧ w.cell? (a.add (i * 3 + 1)) = some (.int .i64 (T i).2.1) ∧ w.cell? (a.add (i * 3 + 2)) = some (.int .i64 (T i).2.2)) :
    Calls Try.prog 5 #[.int .i64 most, .slice A len cap] w fun e w' => e = .returned (.bool true) ∧ Kp w w' (fun _ => False) := by
  have hlen : len ≤ 9223372036854775807 := by unfold maxLen at hm; omega
  have HT := Aside0.mk hT
  clear hT hl hm
  obtain ⟨m, hm⟩ : ∃ m, Ti.clamp most = m := ⟨_, rfl⟩
  have hm6 : m ≤ 65536 := by rw [← hm]; exact Ti.clamp_le most
  have HM := Aside0.mk hm
  clear hm
  go_enter Try.func5, Try.ntmps5
  go_wp2_with fail
  refine (Ti.new_calls most w).mono ?_
  rintro e w1 ⟨tb, S1, rfl, h1⟩
  rw [HM.out] at h1
  have H1 := Aside0.mk h1
  clear h1
  go_wp2_with fail
  refine (brambleref04_New.calls most (m : Int) [] w1 (by unfold brambleref04_New.f; rw [clamp_mn, HM.out])).mono ?_
  rintro e w2 ⟨v, rfl, hR, hB⟩
  obtain ⟨A2, c2, rfl⟩ := Kd.R_slice hR
  have K2 : Kp w1 w2 (fun _ => False) := Kp.of_below hB _
  have hP2 : Pq w w2 tb (w.heap.size + 1) w.heap.size m [] m 0 S1 (.slice A2 ([] : List S47).length c2) [] := ⟨st_stay H1.out K2, Kd.R_lower hR H1.out.kept.size, RM.nil, rfl⟩
  have ka : Kp w2 (w2.alloc (.cells #[.int .i64 m, .slice A2 0 c2] 34)) (fun _ => False) := (Kp.refl _ _).alloc _
  have hbx : (w2.alloc (.cells #[.int .i64 m, .slice A2 0 c2] 34)).heap[w2.heap.size]? = some (.cells #[.int .i64 m, .slice A2 0 c2] 34 (0, 0)) := heap_alloc_new _ _
  have hns : ¬ S1 w2.heap.size := fun hs => by have := st_lt hP2.st _ hs; omega
  have HL0 : Aside0 (Lw w (w2.alloc (.cells #[.int .i64 m, .slice A2 0 c2] 34)) tb w2.heap.size m 0) := ⟨⟨[], 0, S1, [], A2, c2, hP2.stay ka, hbx, hns, hP2.st.kept.size⟩⟩
  clear hR hB K2 hP2 ka hbx hns H1
  go_upto_region 2 with (fail)
  generalize w2.alloc (.cells #[.int .i64 m, .slice A2 0 c2] 34) = w3 at *
  generalize w2.heap.size = bx at *
  go_wp2_with fail
  refine (awake_calls w3).mono ?_
  rintro e w4 ⟨rfl, K4⟩
  have HL1 : Aside0 (Lw w w4 tb bx m 0) := ⟨by
    obtain ⟨Ps, held, S, M, A3, c3, q1, q2, q3, q4⟩ := HL0.out
    exact ⟨Ps, held, S, M, A3, c3, q1.stay K4, blk_kp q2 K4 (fun h => h), q3, q4⟩⟩
  clear HL0 K4
  go_wp2_with fail
  go_loopw [7, 8] (fun kv _ wr => ∃ k : Nat, k ≤ len ∧ k ≤ 120 ∧ kv = .int .i64 k ∧ Aside0 (Lw w wr tb bx m k)) (fun kv _ _ => len - (intOf kv).toNat)
  case atStart => exact ⟨0, Nat.zero_le _, Nat.zero_le _, rfl, HL1⟩
  case round =>
    clear HL1
    obtain ⟨k, hk1, hk2, rfl, HL⟩ := hrel
    by_cases hlt : k < len
    · have t2 : decide ((k : Int) < (len : Int)) = true := decide_eq_true (by omega)
      by_cases hlt2 : k < 120
      · have t3 : decide ((k : Int) < 120) = true := decide_eq_true (by omega)
        obtain ⟨Ps, held, S, M, A3, c3, hP, hb, hns, hbl⟩ := HL.out
        obtain ⟨ad, rfl, s0, s1, s2⟩ := HT.out k hlt
        rw [addn _ _ 1 (by omega)] at s1
        rw [addn _ _ 2 (by omega)] at s2
        have d0 := cell_kp s0 hP.st.kept (fun h => h)
        have d1 := cell_kp s1 hP.st.kept (fun h => h)
        have d2 := cell_kp s2 hP.st.kept (fun h => h)
        have b0 : wr.cell? ⟨bx, 0, none⟩ = some (.int .i64 m) := (blk_cell hb 0).trans rfl
        have b1 : wr.cell? ⟨bx, 1, none⟩ = some (.slice A3 M.length c3) := (blk_cell hb 1).trans rfl
        have HP := Aside0.mk hP
        have HBB := Aside0.mk hb
        have HNS := Aside0.mk hns
        have HBL := Aside0.mk hbl
        have HD0 := Aside0.mk s0
        have HD1 := Aside0.mk s1
        have HD2 := Aside0.mk s2
        clear HL hP hb hns hbl s0 s1 s2
        go_upto_region 8 with (fail)
        refine start_ (n := 12) (S := fun w' => (w'.cell? ⟨bx, 0, none⟩ = some (.int .i64 m) ∧ w'.cell? ⟨bx, 1, none⟩ = some (.slice A3 M.length c3)) ∧ w'.cell? (ad.add (k * 3)) = some (.int .i64 (T k).1) ∧ w'.cell? ⟨(ad.add (k * 3)).block, (ad.add (k * 3)).off + 1, none⟩ = some (.int .i64 (T k).2.1) ∧ w'.cell? ⟨(ad.add (k * 3)).block, (ad.add (k * 3)).off + 2, none⟩ = some (.int .i64 (T k).2.2)) (ds := [10]) #[false, false, false, false, false, false, false, false, false, false, false, false] (by kernel_rfl) rfl rfl ⟨⟨b0, b1⟩, d0, d1, d2⟩ (fun hHeld => ?_)
        refine pure_ (i := 0) (N := (some 30)) (v := ?_) (a' := ?_) #[true, false, false, false, false, false, false, false, false, false, false, false] rfl rfl (by kernel_rfl) (fun _ _ _ h => h) (Or.inl ⟨by rfl, ?_⟩) ?_ ?_
        rotate_left
        · intro w'
          go_simp
          with_reducible rfl
        rotate_left
        · simp only [Act.put, List.setIfInBounds_toArray, List.set_cons_zero, List.set_cons_succ]
          rfl
        refine pure_ (i := 2) (N := (some 32)) (v := ?_) (a' := ?_) #[true, false, true, false, false, false, false, false, false, false, false, false] rfl rfl (by kernel_rfl) (fun _ _ _ h => h) (Or.inl ⟨by rfl, ?_⟩) ?_ ?_
        rotate_left
        · intro w'
          go_simp
          with_reducible rfl
        rotate_left
        · simp only [Act.put, List.setIfInBounds_toArray, List.set_cons_zero, List.set_cons_succ]
          rfl
        refine pure_ (i := 3) (N := (some 33)) (v := ?_) (a' := ?_) #[true, false, true, true, false, false, false, false, false, false, false, false] rfl rfl (by kernel_rfl) (fun _ _ _ h => h) (Or.inl ⟨by rfl, ?_⟩) ?_ ?_
        rotate_left
        · intro w'
          go_simp
          with_reducible rfl
        rotate_left
        · simp only [Act.put, List.setIfInBounds_toArray, List.set_cons_zero, List.set_cons_succ]
          rfl
        refine pure_ (i := 4) (N := (some 34)) (v := ?_) (a' := ?_) #[true, false, true, true, true, false, false, false, false, false, false, false] rfl rfl (by kernel_rfl) (fun _ _ _ h => h) (Or.inl ⟨by rfl, ?_⟩) ?_ ?_
        rotate_left
        · intro w'
          go_simp
          with_reducible rfl
        rotate_left
        · simp only [Act.put, List.setIfInBounds_toArray, List.set_cons_zero, List.set_cons_succ]
          rfl
        refine take_ (i := 1) (N := (some 31)) (v := ?_) (a' := ?_) #[true, true, true, true, true, false, false, false, false, false, false, false] rfl rfl (by kernel_rfl) (fun _ _ _ h => h) (Or.inl ⟨by rfl, ?_⟩) hHeld ?_ ?_
        rotate_left
        · rintro w' ⟨⟨s0, s1⟩, s2, s3, s4⟩
          go_simp
          with_reducible rfl
        rotate_left
        · simp only [Act.put, List.setIfInBounds_toArray, List.set_cons_zero, List.set_cons_succ]
          rfl
        refine take_ (i := 5) (N := (some 35)) (v := ?_) (a' := ?_) #[true, true, true, true, true, true, false, false, false, false, false, false] rfl rfl (by kernel_rfl) (fun _ _ _ h => h) (Or.inl ⟨by rfl, ?_⟩) hHeld ?_ ?_
        rotate_left
        · rintro w' ⟨⟨s0, s1⟩, s2, s3, s4⟩
          go_simp
          with_reducible rfl
        rotate_left
        · simp only [Act.put, List.setIfInBounds_toArray, List.set_cons_zero, List.set_cons_succ]
          rfl
        refine one_ (i := 6) (N := (some 36)) #[true, true, true, true, true, true, true, false, false, false, false, false] rfl rfl (by kernel_rfl) (by decide) (fun K hK => ?_)
        refine goes_ Try.func16 (by kernel_rfl) rfl #[.pointer (some ⟨tb, 0, none⟩), .agg #[.int .i64 m, .slice A3 M.length c3], .agg #[.int .i64 (T k).1, .int .i64 (T k).2.1, .int .i64 (T k).2.2]] (by rfl) rfl rfl (by (try simp only [List.map_toArray, List.map_cons, List.map_nil]); first | done | rfl) ?_
        refine (play_calls (HP.out.stay ((Kp.refl wr _).drew)) (by omega) (T k).1 (T k).2.1 (T k).2.2).mono ?_
        rintro e w5 ⟨A5, c5, Ps5, M5, held5, S5, rfl, hP5, hKB, hFT⟩
        have hb5 := hKB bx _ 34 (.inl rfl) HBB.out HNS.out
        have q0 : w5.cell? ⟨bx, 0, none⟩ = some (.int .i64 m) := (blk_cell hb5 0).trans rfl
        have q1 : w5.cell? ⟨bx, 1, none⟩ = some (.slice A3 M.length c3) := (blk_cell hb5 1).trans rfl
        have z0 : w5.frozen? ⟨bx, 0, none⟩ = false := blk_frozen hb5 0
        have z1 : w5.frozen? ⟨bx, 1, none⟩ = false := blk_frozen hb5 1
        have e0 := cell_kp HD0.out hP5.st.kept (fun h => h)
        have e1 := cell_kp HD1.out hP5.st.kept (fun h => h)
        have e2 := cell_kp HD2.out hP5.st.kept (fun h => h)
        have HP5 := Aside0.mk hP5
        have HFT5 := Aside0.mk hFT
        have HB5 := Aside0.mk hb5
        clear hP5 hKB hFT hb5
        refine ⟨_, rfl, ?_⟩
        refine hK.out _ _ ⟨⟨q0, q1⟩, e0, e1, e2⟩ (fun hHeld => ?_)
        clear hK K
        refine norm_ (a' := ?_) ?_ ?_
        rotate_left
        · show Act.put _ (some 36) _ = _
          simp only [Act.put, List.setIfInBounds_toArray, List.set_cons_zero, List.set_cons_succ]
          rfl
        refine pure_ (i := 7) (N := (some 29)) (v := ?_) (a' := ?_) #[true, true, true, true, true, true, true, true, false, false, false, false] rfl rfl (by kernel_rfl) (fun _ _ _ h => h) (Or.inl ⟨by rfl, ?_⟩) ?_ ?_
        rotate_left
        · intro w'
          go_simp
          with_reducible rfl
        rotate_left
        · simp only [Act.put, List.setIfInBounds_toArray, List.set_cons_zero, List.set_cons_succ]
          rfl
        refine pure_ (i := 8) (N := (some 37)) (v := ?_) (a' := ?_) #[true, true, true, true, true, true, true, true, true, false, false, false] rfl rfl (by kernel_rfl) (fun _ _ _ h => h) (Or.inl ⟨by rfl, ?_⟩) ?_ ?_
        rotate_left
        · intro w'
          go_simp
          with_reducible rfl
        rotate_left
        · simp only [Act.put, List.setIfInBounds_toArray, List.set_cons_zero, List.set_cons_succ]
          rfl
        refine pure_ (i := 9) (N := (some 38)) (v := ?_) (a' := ?_) #[true, true, true, true, true, true, true, true, true, true, false, false] rfl rfl (by kernel_rfl) (fun _ _ _ h => h) (Or.inl ⟨by rfl, ?_⟩) ?_ ?_
        rotate_left
        · intro w'
          go_simp
          with_reducible rfl
        rotate_left
        · simp only [Act.put, List.setIfInBounds_toArray, List.set_cons_zero, List.set_cons_succ]
          rfl
        refine last_ (i := 10) (N := none) #[true, true, true, true, true, true, true, true, true, true, true, false] rfl rfl (by kernel_rfl) (by decide) (fun K hK => ?_)
        refine skip_ (w1 := ?_) (by rfl) rfl ?_ ?_
        rotate_left
        · go_simp
          rfl
        refine hK.out _ _ ?_
        clear hK K
        refine pure_ (i := 11) (N := (some 8)) (v := ?_) (a' := ?_) #[true, true, true, true, true, true, true, true, true, true, true, true] rfl rfl (by kernel_rfl) (fun _ _ _ h => h) (Or.inl ⟨by rfl, ?_⟩) ?_ ?_
        rotate_left
        · intro w'
          go_simp
          with_reducible rfl
        rotate_left
        · simp only [Act.put, List.setIfInBounds_toArray, List.set_cons_zero, List.set_cons_succ]
          rfl
        refine done_ (by kernel_rfl) ?_
        have hbw5 := blk_lt HB5.out
        have hbwr := blk_lt HBB.out
        have hn5 : ¬ S5 bx := fun hs => (HFT5.out bx hs).elim HNS.out (fun h => by have h2 : wr.heap.size ≤ bx := h; omega)
        have K6 : Kp w5 ((w5.setCell ⟨bx, 0, none⟩ (.int .i64 m)).setCell ⟨bx, 1, none⟩ (.slice A5 M5.length c5)) (fun q => q = bx) := Kp.setCell (Kp.setCell (Kp.refl _ _) (by left; rfl) _) (by left; rfl) _
        have hP6 : Pq w ((w5.setCell ⟨bx, 0, none⟩ (.int .i64 m)).setCell ⟨bx, 1, none⟩ (.slice A5 M5.length c5)) tb (w.heap.size + 1) w.heap.size m Ps5 (m + k + 1) held5 S5 (.slice A5 M5.length c5) M5 :=
          ⟨st_keep HP5.out.st K6 (fun q hq hs => hn5 (by rw [← hq]; exact hs)) (fun q hq => by rw [hq]; exact HBL.out), row_kept HP5.out.row K6 (fun q hq hs => by
            obtain ⟨_, cc, h2⟩ := hq
            rw [hs, HB5.out] at h2
            cases h2), HP5.out.rm, HP5.out.len⟩
        have hb6 : ((w5.setCell ⟨bx, 0, none⟩ (.int .i64 m)).setCell ⟨bx, 1, none⟩ (.slice A5 M5.length c5)).heap[bx]? = some (.cells #[.int .i64 m, .slice A5 M5.length c5] 34 (0, 0)) := blk_put (blk_put HB5.out 0 _ rfl) 1 _ rfl
        have hh := HP5.out.len
        clear d0 d1 d2 b0 b1 q0 q1 z0 z1 e0 e1 e2 K6 HP HBB HP5 HB5 HFT5
        generalize (w5.setCell ⟨bx, 0, none⟩ (.int .i64 m)).setCell ⟨bx, 1, none⟩ (.slice A5 M5.length c5) = w6 at *
        subst hh
        have x1 : w6.cell? ⟨bx, 1, none⟩ = some (.slice A5 M5.length c5) := (blk_cell hb6 1).trans rfl
        have HP6 := Aside0.mk hP6
        have HL6 : Aside0 (Lw w w6.drew tb bx m (k + 1)) := ⟨⟨Ps5, _, S5, M5, A5, c5, hP6.stay ((Kp.refl _ _).drew), hb6, hn5, HBL.out⟩⟩
        clear hP6 hb6 hn5
        go_wp2_with fail
        go_region_held3 (fun w' => w'.cell? ⟨bx, 1, none⟩ = some (.slice A5 M5.length c5)) (first | exact x1)
          (first | (go_at_call 13; go_must ((refine (Ti.len_st (st_stay HP6.out.st ((Kp.refl w6 (fun _ => False)).drew))).mono ?_); rintro e w9 ⟨rfl, rfl⟩)))
        clear x1 HP6
        go_wp2
        go_roundw
        case measure => simp [intOf]; omega
        case rel => exact ⟨k + 1, by omega, by omega, by go_num, HL6⟩
      · have t3 : decide ((k : Int) < 120) = false := decide_eq_false (by omega)
        obtain ⟨Ps, held, S, M, A3, c3, hP, hb, hns, hbl⟩ := HL.out
        have hC := Kd.R_reads' hP.row
        have b0 : wr.cell? ⟨bx, 0, none⟩ = some (.int .i64 m) := (blk_cell hb 0).trans rfl
        have b1 : wr.cell? ⟨bx, 1, none⟩ = some (.slice A3 M.length c3) := (blk_cell hb 1).trans rfl
        have HSM := Aside0.mk (same_calls hP.st hP.rm hP.small m A3 c3 hC.2.2 hC.2.1)
        have HKW := Aside0.mk hP.st.kept
        clear HL hP hb hns hbl hC
        go_wp2_with fail
        refine HSM.out.mono ?_
        rintro e w9 ⟨rfl, K9⟩
        have FIN : Aside0 (Kp w w9 (fun _ => False)) := ⟨HKW.out.then_ K9 (fun _ h => h.elim)⟩
        clear K9 b0 b1
        go_wp2
        go_ret
        exact ⟨rfl, FIN.out⟩
    · have t2 : decide ((k : Int) < (len : Int)) = false := decide_eq_false (by omega)
      obtain ⟨Ps, held, S, M, A3, c3, hP, hb, hns, hbl⟩ := HL.out
      have hC := Kd.R_reads' hP.row
      have b0 : wr.cell? ⟨bx, 0, none⟩ = some (.int .i64 m) := (blk_cell hb 0).trans rfl
      have b1 : wr.cell? ⟨bx, 1, none⟩ = some (.slice A3 M.length c3) := (blk_cell hb 1).trans rfl
      have HSM := Aside0.mk (same_calls hP.st hP.rm hP.small m A3 c3 hC.2.2 hC.2.1)
      have HKW := Aside0.mk hP.st.kept
      clear HL hP hb hns hbl hC
      go_wp2_with fail
      refine HSM.out.mono ?_
      rintro e w9 ⟨rfl, K9⟩
      have FIN : Aside0 (Kp w w9 (fun _ => False)) := ⟨HKW.out.then_ K9 (fun _ h => h.elim)⟩
      clear K9 b0 b1
      go_wp2
      go_ret
      exact ⟨rfl, FIN.out⟩
theorem law_row (most : Int) (A : Option Addr) (len cap : Nat) (T : Nat → Int × Int × Int) (w : World) (_ : (Lit.int .i64 most).wf = true) (hl : len ≤ cap) (hm : cap ≤ maxLen) (hT : ∀ i, i < len → ∃ a, A = some a ∧ w.cell? (a.add (i * 3)) = some (.int .i64 (T i).1) ∧ w.cell? (a.add (i * 3 + 1)) = some (.int .i64 (T i).2.1) ∧ w.cell? (a.add (i * 3 + 2)) = some (.int .i64 (T i).2.2) ∧ (Lit.int .i64 (T i).1).wf = true ∧ (Lit.int .i64 (T i).2.1).wf = true ∧ (Lit.int .i64 (T i).2.2).wf = true) :
    Calls Try.prog 5 #[.int .i64 most, .slice A len cap] w fun e w' => e = .returned (.bool true) ∧ Below w.heap.size w w' :=
  (plays_calls most A len cap T w hl hm (fun i hi => by obtain ⟨a, h1, h2, h3, h4, _⟩ := hT i hi; exact ⟨a, h1, h2, h3, h4⟩)).mono fun _ _ h => ⟨h.1, h.2.to_below⟩
end Go.Proofs.Ytiocnkoogachkaa.Vp
