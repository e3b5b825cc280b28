/- This text walks the law's step, kind by kind (printed by mkplay.py). -/
import Derived.Test.YtiocnkoogachkaaVp
import Derived.BigRegion
namespace Go.Proofs.Ytiocnkoogachkaa.Vp
open Go.RowKit Go.Proofs.YtiocnkoogachkaaW.PrintWords Go.Proofs.Ytiocnkoogachkaa.Mp Go.Proofs.Ytiocnkoogachkaa.Hp Go.Proofs.Ytiocnkoogachkaa.Tg Go.Proofs.Ytiocnkoogachkaa.Rs Go.Proofs.Ytiocnkoogachkaa.PSlotsPlays Go.Proofs.Ytiocnkoogachkaa.Us
set_option linter.unusedVariables false
set_option linter.unusedSimpArgs false
set_option maxHeartbeats 4000000 in
set_option maxRecDepth 100000 in
theorem play1 {w0 w : World} {tb hb pb m b : Nat} {Ps : List (It Int Bool)} {held : Int} {S : Nat → Prop} {M : List S47} {A : Option Addr} {c : Nat} (h : Pq w0 w tb hb pb m Ps b held S (.slice A M.length c) M) (hb1 : b < 1000000) (i x : Int) :
    Calls Try.prog 16 #[.pointer (some ⟨tb, 0, none⟩), .agg #[.int .i64 m, .slice A M.length c], .agg #[.int .i64 1, .int .i64 i, .int .i64 x]] w fun e w' => Out w0 w w' tb hb pb m b S e := by
  have HLT : Aside0 (∀ k, S k → k < w.heap.size) := ⟨st_lt h.st⟩
  have H00 : Aside0 (w0.heap.size ≤ w.heap.size) := ⟨h.st.kept.size⟩
  have HSM := Aside0.mk h.small
  have HRM := Aside0.mk h.rm
  have ka : Kp w (((w.alloc (.cells #[.int .i64 m, .slice A M.length c] 34)).alloc (.cells #[.int .i64 1, .int .i64 i, .int .i64 x] 39)).alloc (.cells #[.int .i64 0, .slice none 0 0] 34)) (fun _ => False) := (((Kp.refl w _).alloc _).alloc _).alloc _
  have HB := Aside0.mk (bx_new w m 1 i x (.slice A M.length c))
  have HP := Aside0.mk (h.stay ka)
  have HKB0 : Aside0 (KB w (((w.alloc (.cells #[.int .i64 m, .slice A M.length c] 34)).alloc (.cells #[.int .i64 1, .int .i64 i, .int .i64 x] 39)).alloc (.cells #[.int .i64 0, .slice none 0 0] 34)) S) := ⟨KB.of_F ka S⟩
  have HSZ : Aside0 (w.heap.size ≤ (((w.alloc (.cells #[.int .i64 m, .slice A M.length c] 34)).alloc (.cells #[.int .i64 1, .int .i64 i, .int .i64 x] 39)).alloc (.cells #[.int .i64 0, .slice none 0 0] 34)).heap.size) := ⟨ka.size⟩
  obtain ⟨r, n, Ps2, M2, held2, hT, hF, hA, hRM, hLN⟩ := plan_put h hb1 x
  have HT := Aside0.mk hT
  have HF := Aside0.mk hF
  have HA := Aside0.mk hA
  have HRM2 := Aside0.mk hRM
  have HLN := Aside0.mk hLN
  clear hT hF hA hRM hLN
  go_enter Try.func16, Try.ntmps16
  go_upto_region 1 with (fail)
  clear ka h
  generalize ((w.alloc (.cells #[.int .i64 m, .slice A M.length c] 34)).alloc (.cells #[.int .i64 1, .int .i64 i, .int .i64 x] 39)).alloc (.cells #[.int .i64 0, .slice none 0 0] 34) = wa at *
  have c40 : wa.cell? ⟨w.heap.size, 0, none⟩ = some (.int .i64 m) := (blk_cell HB.out.b4 0).trans rfl
  have c41 : wa.cell? ⟨w.heap.size, 1, none⟩ = some (.slice A M.length c) := (blk_cell HB.out.b4 1).trans rfl
  have c50 : wa.cell? ⟨w.heap.size + 1, 0, none⟩ = some (.int .i64 1) := (blk_cell HB.out.b5 0).trans rfl
  have c51 : wa.cell? ⟨w.heap.size + 1, 1, none⟩ = some (.int .i64 i) := (blk_cell HB.out.b5 1).trans rfl
  have c52 : wa.cell? ⟨w.heap.size + 1, 2, none⟩ = some (.int .i64 x) := (blk_cell HB.out.b5 2).trans rfl
  go_wp2_with fail
  refine (HT.out wa S HP.out.st).mono ?_
  rintro e w1 ⟨rfl, S1, st1, T1⟩
  have row1 := row_kept HP.out.row T1.kp (fun k hk hs => st_types HP.out.st hs hk)
  have kb1 := HKB0.out.trans (KB.of_S T1.kp) (fun k hk => .inl hk)
  have HB1 := Aside0.mk (HB.out.keep (KB.of_S T1.kp) HLT.out)
  have HST1 := Aside0.mk st1
  have HR1 := Aside0.mk row1
  have HKB1 := Aside0.mk kb1
  have HFT : Aside0 (∀ k, S1 k → S k ∨ wa.heap.size ≤ k) := ⟨T1.foot⟩
  have HNB : Aside0 (¬ S1 (w.heap.size + 2)) := ⟨fun hs => by
    have h1 := blk_lt HB.out.b6
    rcases T1.foot _ hs with h2 | h2
    · have := HLT.out _ h2; omega
    · omega⟩
  clear c40 c41 c50 c51 c52
  clear st1 row1 kb1 T1
  have c40 : w1.cell? ⟨w.heap.size, 0, none⟩ = some (.int .i64 m) := (blk_cell HB1.out.b4 0).trans rfl
  have c41 : w1.cell? ⟨w.heap.size, 1, none⟩ = some (.slice A M.length c) := (blk_cell HB1.out.b4 1).trans rfl
  have c50 : w1.cell? ⟨w.heap.size + 1, 0, none⟩ = some (.int .i64 1) := (blk_cell HB1.out.b5 0).trans rfl
  have c51 : w1.cell? ⟨w.heap.size + 1, 1, none⟩ = some (.int .i64 i) := (blk_cell HB1.out.b5 1).trans rfl
  have c52 : w1.cell? ⟨w.heap.size + 1, 2, none⟩ = some (.int .i64 x) := (blk_cell HB1.out.b5 2).trans rfl
  go_wp2_with fail
  refine (c_free HR1.out HF.out).mono ?_
  rintro e w2 ⟨rfl, K2⟩
  have HST2 := Aside0.mk (st_stay HST1.out K2)
  have HR2 := Aside0.mk (row_kept HR1.out K2 (fun _ _ h => h))
  have HKB2 := Aside0.mk (HKB1.out.new K2 (fun _ h => h.elim))
  have HB2 := Aside0.mk (HB1.out.keep (S := fun _ => False) (KB.of_F K2 _) (fun _ h => h.elim))
  clear c40 c41 c50 c51 c52
  clear K2
  have c40 : w2.cell? ⟨w.heap.size, 0, none⟩ = some (.int .i64 m) := (blk_cell HB2.out.b4 0).trans rfl
  have c41 : w2.cell? ⟨w.heap.size, 1, none⟩ = some (.slice A M.length c) := (blk_cell HB2.out.b4 1).trans rfl
  have c50 : w2.cell? ⟨w.heap.size + 1, 0, none⟩ = some (.int .i64 1) := (blk_cell HB2.out.b5 0).trans rfl
  have c51 : w2.cell? ⟨w.heap.size + 1, 1, none⟩ = some (.int .i64 i) := (blk_cell HB2.out.b5 1).trans rfl
  have c52 : w2.cell? ⟨w.heap.size + 1, 2, none⟩ = some (.int .i64 x) := (blk_cell HB2.out.b5 2).trans rfl
  go_wp2_with fail
  refine (c_putAt HST2.out HR2.out HA.out).mono ?_
  rintro e w3 ⟨A3, c3, rfl, st3, row3, K3⟩
  have HST3 := Aside0.mk st3
  have HR3 := Aside0.mk row3
  have HKB3 : Aside0 (KB w w3 S) := ⟨HKB2.out.trans (KB.of_R K3 (fun _ => False)) (fun _ h => h.elim)⟩
  have HB3 := Aside0.mk (HB2.out.keep (S := fun _ => False) (KB.of_R K3 _) (fun _ h => h.elim))
  clear c40 c41 c50 c51 c52
  clear K3 st3 row3
  go_upto_region 6 with (fail)
  have bn : (w3.alloc (.cells #[.int .i64 m, .slice A3 M2.length c3] 34)).heap[w3.heap.size]? = some (.cells #[.int .i64 m, .slice A3 M2.length c3] 34 (0, 0)) := heap_alloc_new _ _
  have kn : Kp w3 (w3.alloc (.cells #[.int .i64 m, .slice A3 M2.length c3] 34)) (fun _ => False) := (Kp.refl _ _).alloc _
  have HST4 := Aside0.mk (st_stay HST3.out kn)
  have HR4 := Aside0.mk (row_kept HR3.out kn (fun _ _ h => h))
  have HKB4 := Aside0.mk (HKB3.out.new kn (fun _ h => h.elim))
  have HB4 := Aside0.mk (HB3.out.keep (S := fun _ => False) (KB.of_F kn _) (fun _ h => h.elim))
  have HLE : Aside0 (w.heap.size + 2 < w3.heap.size) := ⟨blk_lt HB3.out.b6⟩
  clear kn
  generalize w3.alloc (.cells #[.int .i64 m, .slice A3 M2.length c3] 34) = w4 at *
  generalize w3.heap.size = bx at *
  have BN := Aside0.mk bn
  have cn0 : w4.cell? ⟨bx, 0, none⟩ = some (.int .i64 m) := (blk_cell bn 0).trans rfl
  have cn1 : w4.cell? ⟨bx, 1, none⟩ = some (.slice A3 M2.length c3) := (blk_cell bn 1).trans rfl
  clear bn
  have c60 : w4.cell? ⟨w.heap.size + 1 + 1, 0, none⟩ = some (.int .i64 0) := (blk_cell HB4.out.b6 0).trans rfl
  have c61 : w4.cell? ⟨w.heap.size + 1 + 1, 1, none⟩ = some (.slice none 0 0) := (blk_cell HB4.out.b6 1).trans rfl
  have z60 : w4.frozen? ⟨w.heap.size + 1 + 1, 0, none⟩ = false := blk_frozen HB4.out.b6 0
  have z61 : w4.frozen? ⟨w.heap.size + 1 + 1, 1, none⟩ = false := blk_frozen HB4.out.b6 1
  have HFT2 : Aside0 (∀ k, S1 k → S k ∨ w.heap.size ≤ k) := ⟨fun k hk => (HFT.out k hk).imp id (fun h => Nat.le_trans HSZ.out h)⟩
  go_wp2
  have FW : Aside0 ((((w4.setCell ⟨w.heap.size + 1 + 1, 0, none⟩ (.int .i64 m)).setCell ⟨w.heap.size + 1 + 1, 1, none⟩ (.slice A3 M2.length c3))).heap[w.heap.size + 1 + 1]? = some (.cells #[.int .i64 m, .slice A3 M2.length c3] 34 (0, 0))) := ⟨blk_put (blk_put HB4.out.b6 0 _ rfl) 1 _ rfl⟩
  have FO : Aside0 (Out w0 w (((w4.setCell ⟨w.heap.size + 1 + 1, 0, none⟩ (.int .i64 m)).setCell ⟨w.heap.size + 1 + 1, 1, none⟩ (.slice A3 M2.length c3))) tb hb pb m b S (.returned (.tuple #[.agg #[.int .i64 m, .slice A3 M2.length c3], .bool true]))) := ⟨out_mk (X := fun k => k = w.heap.size + 1 + 1) HST4.out HR4.out HRM2.out HLN.out HKB4.out HFT2.out ((Kp.setCell (Kp.setCell (Kp.refl _ _) (by left; rfl) _) (by left; rfl) _)) (fun k hk => by omega) (fun k hk hs => HNB.out (by rw [← show k = w.heap.size + 2 from hk]; exact hs)) (fun k hk hr => by obtain ⟨_, cc, h2⟩ := hr; rw [show k = w.heap.size + 2 from hk, HB4.out.b6] at h2; cases h2) H00.out⟩
  generalize ((w4.setCell ⟨w.heap.size + 1 + 1, 0, none⟩ (.int .i64 m)).setCell ⟨w.heap.size + 1 + 1, 1, none⟩ (.slice A3 M2.length c3)) = wf at *
  have f0 : wf.cell? ⟨w.heap.size + 1 + 1, 0, none⟩ = some (.int .i64 m) := (blk_cell FW.out 0).trans rfl
  have f1 : wf.cell? ⟨w.heap.size + 1 + 1, 1, none⟩ = some (.slice A3 M2.length c3) := (blk_cell FW.out 1).trans rfl
  clear c60 c61 z60 z61 cn0 cn1
  refine bodyPost_ret (v := .tuple #[.agg #[.int .i64 m, .slice A3 M2.length c3], .bool true]) ?_ rfl FO.out
  have hres : Try.f16.results = #[ResultVar.cell 6 34, ResultVar.tmp 7] := rfl
  simp only [results, hres]
  go_simp
set_option maxHeartbeats 4000000 in
set_option maxRecDepth 100000 in
theorem play2 {w0 w : World} {tb hb pb m b : Nat} {Ps : List (It Int Bool)} {held : Int} {S : Nat → Prop} {M : List S47} {A : Option Addr} {c : Nat} (h : Pq w0 w tb hb pb m Ps b held S (.slice A M.length c) M) (hb1 : b < 1000000) (i x : Int) :
    Calls Try.prog 16 #[.pointer (some ⟨tb, 0, none⟩), .agg #[.int .i64 m, .slice A M.length c], .agg #[.int .i64 2, .int .i64 i, .int .i64 x]] w fun e w' => Out w0 w w' tb hb pb m b S e := by
  have HLT : Aside0 (∀ k, S k → k < w.heap.size) := ⟨st_lt h.st⟩
  have H00 : Aside0 (w0.heap.size ≤ w.heap.size) := ⟨h.st.kept.size⟩
  have HSM := Aside0.mk h.small
  have HRM := Aside0.mk h.rm
  have ka : Kp w (((w.alloc (.cells #[.int .i64 m, .slice A M.length c] 34)).alloc (.cells #[.int .i64 2, .int .i64 i, .int .i64 x] 39)).alloc (.cells #[.int .i64 0, .slice none 0 0] 34)) (fun _ => False) := (((Kp.refl w _).alloc _).alloc _).alloc _
  have HB := Aside0.mk (bx_new w m 2 i x (.slice A M.length c))
  have HP := Aside0.mk (h.stay ka)
  have HKB0 : Aside0 (KB w (((w.alloc (.cells #[.int .i64 m, .slice A M.length c] 34)).alloc (.cells #[.int .i64 2, .int .i64 i, .int .i64 x] 39)).alloc (.cells #[.int .i64 0, .slice none 0 0] 34)) S) := ⟨KB.of_F ka S⟩
  have HSZ : Aside0 (w.heap.size ≤ (((w.alloc (.cells #[.int .i64 m, .slice A M.length c] 34)).alloc (.cells #[.int .i64 2, .int .i64 i, .int .i64 x] 39)).alloc (.cells #[.int .i64 0, .slice none 0 0] 34)).heap.size) := ⟨ka.size⟩
  obtain ⟨r, Ps2, M2, held2, hT, hA, hRM, hLN⟩ := plan_putAt h hb1 i x
  have HT := Aside0.mk hT
  have HA := Aside0.mk hA
  have HRM2 := Aside0.mk hRM
  have HLN := Aside0.mk hLN
  clear hT hA hRM hLN
  go_enter Try.func16, Try.ntmps16
  go_upto_region 1 with (fail)
  clear ka h
  generalize ((w.alloc (.cells #[.int .i64 m, .slice A M.length c] 34)).alloc (.cells #[.int .i64 2, .int .i64 i, .int .i64 x] 39)).alloc (.cells #[.int .i64 0, .slice none 0 0] 34) = wa at *
  have c40 : wa.cell? ⟨w.heap.size, 0, none⟩ = some (.int .i64 m) := (blk_cell HB.out.b4 0).trans rfl
  have c41 : wa.cell? ⟨w.heap.size, 1, none⟩ = some (.slice A M.length c) := (blk_cell HB.out.b4 1).trans rfl
  have c50 : wa.cell? ⟨w.heap.size + 1, 0, none⟩ = some (.int .i64 2) := (blk_cell HB.out.b5 0).trans rfl
  have c51 : wa.cell? ⟨w.heap.size + 1, 1, none⟩ = some (.int .i64 i) := (blk_cell HB.out.b5 1).trans rfl
  have c52 : wa.cell? ⟨w.heap.size + 1, 2, none⟩ = some (.int .i64 x) := (blk_cell HB.out.b5 2).trans rfl
  go_wp2_with fail
  refine (c_putAt HP.out.st HP.out.row HA.out).mono ?_
  rintro e w1 ⟨A1, c1, rfl, st1, row1, K1⟩
  have HST1 := Aside0.mk st1
  have HR1 := Aside0.mk row1
  have HKB1 : Aside0 (KB w w1 S) := ⟨HKB0.out.trans (KB.of_R K1 (fun _ => False)) (fun _ h => h.elim)⟩
  have HB1 := Aside0.mk (HB.out.keep (S := fun _ => False) (KB.of_R K1 _) (fun _ h => h.elim))
  clear c40 c41 c50 c51 c52
  clear K1 st1 row1
  go_upto_region 9 with (fail)
  have bn : (w1.alloc (.cells #[.int .i64 m, .slice A1 M2.length c1] 34)).heap[w1.heap.size]? = some (.cells #[.int .i64 m, .slice A1 M2.length c1] 34 (0, 0)) := heap_alloc_new _ _
  have kn : Kp w1 (w1.alloc (.cells #[.int .i64 m, .slice A1 M2.length c1] 34)) (fun _ => False) := (Kp.refl _ _).alloc _
  have HST2 := Aside0.mk (st_stay HST1.out kn)
  have HR2 := Aside0.mk (row_kept HR1.out kn (fun _ _ h => h))
  have HKB2 := Aside0.mk (HKB1.out.new kn (fun _ h => h.elim))
  have HB2 := Aside0.mk (HB1.out.keep (S := fun _ => False) (KB.of_F kn _) (fun _ h => h.elim))
  have HLE : Aside0 (w.heap.size + 2 < w1.heap.size) := ⟨blk_lt HB1.out.b6⟩
  clear kn
  generalize w1.alloc (.cells #[.int .i64 m, .slice A1 M2.length c1] 34) = w2 at *
  generalize w1.heap.size = bx at *
  have BN := Aside0.mk bn
  have cn0 : w2.cell? ⟨bx, 0, none⟩ = some (.int .i64 m) := (blk_cell bn 0).trans rfl
  have cn1 : w2.cell? ⟨bx, 1, none⟩ = some (.slice A1 M2.length c1) := (blk_cell bn 1).trans rfl
  clear bn
  have c40 : w2.cell? ⟨w.heap.size, 0, none⟩ = some (.int .i64 m) := (blk_cell HB2.out.b4 0).trans rfl
  have c41 : w2.cell? ⟨w.heap.size, 1, none⟩ = some (.slice A M.length c) := (blk_cell HB2.out.b4 1).trans rfl
  have c50 : w2.cell? ⟨w.heap.size + 1, 0, none⟩ = some (.int .i64 2) := (blk_cell HB2.out.b5 0).trans rfl
  have c51 : w2.cell? ⟨w.heap.size + 1, 1, none⟩ = some (.int .i64 i) := (blk_cell HB2.out.b5 1).trans rfl
  have c52 : w2.cell? ⟨w.heap.size + 1, 2, none⟩ = some (.int .i64 x) := (blk_cell HB2.out.b5 2).trans rfl
  go_region_held3 (fun w' => w'.cell? ⟨bx, 0, none⟩ = some (.int .i64 m) ∧ w'.cell? ⟨bx, 1, none⟩ = some (.slice A1 M2.length c1) ∧ w'.cell? ⟨w.heap.size + 1, 1, none⟩ = some (.int .i64 i) ∧ w'.cell? ⟨w.heap.size + 1, 2, none⟩ = some (.int .i64 x)) (first | exact ⟨cn0, cn1, c51, c52⟩ | exact D1.out | exact ⟨(set2 (by have := HLE.out; omega) _ _).trans D1.out.1, (set2 (by have := HLE.out; omega) _ _).trans D1.out.2.1, (set2 (by omega) _ _).trans D1.out.2.2.1, (set2 (by omega) _ _).trans D1.out.2.2.2⟩)
    (first | (go_at_call 14; go_must ((refine (HT.out _ S (st_stay HST2.out ((Kp.refl w2 _).drew))).mono ?_); rintro e w3 ⟨rfl, S3, st3, T3⟩; have kT : KB w2 w3 S := (KB.of_F ((Kp.refl w2 (fun _ => False)).drew) S).trans (KB.of_S T3.kp) (fun k hk => .inl hk); have HB3 := Aside0.mk (HB2.out.keep kT HLT.out); have bn3 := kT _ _ _ (.inl rfl) BN.out (fun hs => by have h1 := HLT.out _ hs; have h2 := HLE.out; omega); have c60 : w3.cell? ⟨w.heap.size + 1 + 1, 0, none⟩ = some (.int .i64 0) := (blk_cell HB3.out.b6 0).trans rfl; have c61 : w3.cell? ⟨w.heap.size + 1 + 1, 1, none⟩ = some (.slice none 0 0) := (blk_cell HB3.out.b6 1).trans rfl; have z60 : w3.frozen? ⟨w.heap.size + 1 + 1, 0, none⟩ = false := blk_frozen HB3.out.b6 0; have z61 : w3.frozen? ⟨w.heap.size + 1 + 1, 1, none⟩ = false := blk_frozen HB3.out.b6 1; have D1 := Aside0.mk (And.intro ((blk_cell bn3 0).trans rfl : w3.cell? ⟨bx, 0, none⟩ = some (.int .i64 m)) (And.intro ((blk_cell bn3 1).trans rfl : w3.cell? ⟨bx, 1, none⟩ = some (.slice A1 M2.length c1)) (And.intro ((blk_cell HB3.out.b5 1).trans rfl : w3.cell? ⟨w.heap.size + 1, 1, none⟩ = some (.int .i64 i)) ((blk_cell HB3.out.b5 2).trans rfl : w3.cell? ⟨w.heap.size + 1, 2, none⟩ = some (.int .i64 x))))); have HST3 := Aside0.mk st3; have HR3 := Aside0.mk (row_kept (row_kept HR2.out ((Kp.refl w2 (fun _ => False)).drew) (fun _ _ h => h)) T3.kp (fun k hk hs => st_types (st_stay HST2.out ((Kp.refl w2 (fun _ => False)).drew)) hs hk)); have HKB3 := Aside0.mk (HKB2.out.trans kT (fun k hk => .inl hk)); have HFT3 : Aside0 (∀ k, S3 k → S k ∨ w.heap.size ≤ k) := ⟨fun k hk => (T3.foot k hk).imp id (fun h => by have h1 := blk_lt HB2.out.b6; have h2 : w2.heap.size ≤ k := h; omega)⟩; have HNB : Aside0 (¬ S3 (w.heap.size + 2)) := ⟨fun hs => by have h1 := blk_lt HB2.out.b6; exact (T3.foot _ hs).elim (fun h2 => by have := HLT.out _ h2; omega) (fun h2 => by have h3 : w2.heap.size ≤ w.heap.size + 2 := h2; omega)⟩; clear kT st3 T3 bn3)))
  have FW : Aside0 ((((w3.setCell ⟨w.heap.size + 1 + 1, 0, none⟩ (.int .i64 m)).setCell ⟨w.heap.size + 1 + 1, 1, none⟩ (.slice A1 M2.length c1))).heap[w.heap.size + 1 + 1]? = some (.cells #[.int .i64 m, .slice A1 M2.length c1] 34 (0, 0))) := ⟨blk_put (blk_put HB3.out.b6 0 _ rfl) 1 _ rfl⟩
  have FO : Aside0 (Out w0 w (((w3.setCell ⟨w.heap.size + 1 + 1, 0, none⟩ (.int .i64 m)).setCell ⟨w.heap.size + 1 + 1, 1, none⟩ (.slice A1 M2.length c1))) tb hb pb m b S (.returned (.tuple #[.agg #[.int .i64 m, .slice A1 M2.length c1], .bool true]))) := ⟨out_mk (X := fun k => k = w.heap.size + 1 + 1) HST3.out HR3.out HRM2.out HLN.out HKB3.out HFT3.out ((Kp.setCell (Kp.setCell (Kp.refl _ _) (by left; rfl) _) (by left; rfl) _)) (fun k hk => by omega) (fun k hk hs => HNB.out (by rw [← show k = w.heap.size + 2 from hk]; exact hs)) (fun k hk hr => by obtain ⟨_, cc, h2⟩ := hr; rw [show k = w.heap.size + 2 from hk, HB3.out.b6] at h2; cases h2) H00.out⟩
  generalize ((w3.setCell ⟨w.heap.size + 1 + 1, 0, none⟩ (.int .i64 m)).setCell ⟨w.heap.size + 1 + 1, 1, none⟩ (.slice A1 M2.length c1)) = wf at *
  have f0 : wf.cell? ⟨w.heap.size + 1 + 1, 0, none⟩ = some (.int .i64 m) := (blk_cell FW.out 0).trans rfl
  have f1 : wf.cell? ⟨w.heap.size + 1 + 1, 1, none⟩ = some (.slice A1 M2.length c1) := (blk_cell FW.out 1).trans rfl
  clear c60 c61 z60 z61 cn0 cn1 c40 c41 c50 c51 c52
  go_wp2
  refine bodyPost_ret (v := .tuple #[.agg #[.int .i64 m, .slice A1 M2.length c1], .bool true]) ?_ rfl FO.out
  have hres : Try.f16.results = #[ResultVar.cell 6 34, ResultVar.tmp 7] := rfl
  simp only [results, hres]
  go_simp
set_option maxHeartbeats 4000000 in
set_option maxRecDepth 100000 in
theorem play3 {w0 w : World} {tb hb pb m b : Nat} {Ps : List (It Int Bool)} {held : Int} {S : Nat → Prop} {M : List S47} {A : Option Addr} {c : Nat} (h : Pq w0 w tb hb pb m Ps b held S (.slice A M.length c) M) (hb1 : b < 1000000) (i x : Int) :
    Calls Try.prog 16 #[.pointer (some ⟨tb, 0, none⟩), .agg #[.int .i64 m, .slice A M.length c], .agg #[.int .i64 3, .int .i64 i, .int .i64 x]] w fun e w' => Out w0 w w' tb hb pb m b S e := by
  have HLT : Aside0 (∀ k, S k → k < w.heap.size) := ⟨st_lt h.st⟩
  have H00 : Aside0 (w0.heap.size ≤ w.heap.size) := ⟨h.st.kept.size⟩
  have HSM := Aside0.mk h.small
  have HRM := Aside0.mk h.rm
  have ka : Kp w (((w.alloc (.cells #[.int .i64 m, .slice A M.length c] 34)).alloc (.cells #[.int .i64 3, .int .i64 i, .int .i64 x] 39)).alloc (.cells #[.int .i64 0, .slice none 0 0] 34)) (fun _ => False) := (((Kp.refl w _).alloc _).alloc _).alloc _
  have HB := Aside0.mk (bx_new w m 3 i x (.slice A M.length c))
  have HP := Aside0.mk (h.stay ka)
  have HKB0 : Aside0 (KB w (((w.alloc (.cells #[.int .i64 m, .slice A M.length c] 34)).alloc (.cells #[.int .i64 3, .int .i64 i, .int .i64 x] 39)).alloc (.cells #[.int .i64 0, .slice none 0 0] 34)) S) := ⟨KB.of_F ka S⟩
  have HSZ : Aside0 (w.heap.size ≤ (((w.alloc (.cells #[.int .i64 m, .slice A M.length c] 34)).alloc (.cells #[.int .i64 3, .int .i64 i, .int .i64 x] 39)).alloc (.cells #[.int .i64 0, .slice none 0 0] 34)).heap.size) := ⟨ka.size⟩
  obtain ⟨r, y, hT, hA⟩ := plan_at h i
  have HLN := Aside0.mk h.len
  have HT := Aside0.mk hT
  have HA := Aside0.mk hA
  clear hT hA
  go_enter Try.func16, Try.ntmps16
  go_upto_region 1 with (fail)
  clear ka h
  generalize ((w.alloc (.cells #[.int .i64 m, .slice A M.length c] 34)).alloc (.cells #[.int .i64 3, .int .i64 i, .int .i64 x] 39)).alloc (.cells #[.int .i64 0, .slice none 0 0] 34) = wa at *
  have c40 : wa.cell? ⟨w.heap.size, 0, none⟩ = some (.int .i64 m) := (blk_cell HB.out.b4 0).trans rfl
  have c41 : wa.cell? ⟨w.heap.size, 1, none⟩ = some (.slice A M.length c) := (blk_cell HB.out.b4 1).trans rfl
  have c50 : wa.cell? ⟨w.heap.size + 1, 0, none⟩ = some (.int .i64 3) := (blk_cell HB.out.b5 0).trans rfl
  have c51 : wa.cell? ⟨w.heap.size + 1, 1, none⟩ = some (.int .i64 i) := (blk_cell HB.out.b5 1).trans rfl
  have c52 : wa.cell? ⟨w.heap.size + 1, 2, none⟩ = some (.int .i64 x) := (blk_cell HB.out.b5 2).trans rfl
  go_wp2_with fail
  refine (HT.out wa S HP.out.st).mono ?_
  rintro e w1 ⟨rfl, S1, st1, T1⟩
  have row1 := row_kept HP.out.row T1.kp (fun k hk hs => st_types HP.out.st hs hk)
  have kb1 := HKB0.out.trans (KB.of_S T1.kp) (fun k hk => .inl hk)
  have HB1 := Aside0.mk (HB.out.keep (KB.of_S T1.kp) HLT.out)
  have HST1 := Aside0.mk st1
  have HR1 := Aside0.mk row1
  have HKB1 := Aside0.mk kb1
  have HFT2 : Aside0 (∀ k, S1 k → S k ∨ w.heap.size ≤ k) := ⟨fun k hk => (T1.foot k hk).imp id (fun h => Nat.le_trans HSZ.out h)⟩
  have HNB : Aside0 (¬ S1 (w.heap.size + 2)) := ⟨fun hs => by
    have h1 := blk_lt HB.out.b6
    rcases T1.foot _ hs with h2 | h2
    · have := HLT.out _ h2; omega
    · omega⟩
  clear c40 c41 c50 c51 c52
  clear st1 row1 kb1 T1
  have c40 : w1.cell? ⟨w.heap.size, 0, none⟩ = some (.int .i64 m) := (blk_cell HB1.out.b4 0).trans rfl
  have c41 : w1.cell? ⟨w.heap.size, 1, none⟩ = some (.slice A M.length c) := (blk_cell HB1.out.b4 1).trans rfl
  have c50 : w1.cell? ⟨w.heap.size + 1, 0, none⟩ = some (.int .i64 3) := (blk_cell HB1.out.b5 0).trans rfl
  have c51 : w1.cell? ⟨w.heap.size + 1, 1, none⟩ = some (.int .i64 i) := (blk_cell HB1.out.b5 1).trans rfl
  have c52 : w1.cell? ⟨w.heap.size + 1, 2, none⟩ = some (.int .i64 x) := (blk_cell HB1.out.b5 2).trans rfl
  go_wp2_with fail
  refine (c_find HR1.out HSM.out i).mono ?_
  rintro e w2 ⟨rfl, K2⟩
  have HST2 := Aside0.mk (st_stay HST1.out K2)
  have HR2 := Aside0.mk (row_kept HR1.out K2 (fun _ _ h => h))
  have HKB2 := Aside0.mk (HKB1.out.new K2 (fun _ h => h.elim))
  have HB2 := Aside0.mk (HB1.out.keep (S := fun _ => False) (KB.of_F K2 _) (fun _ h => h.elim))
  clear c40 c41 c50 c51 c52
  clear K2
  have c40 : w2.cell? ⟨w.heap.size, 0, none⟩ = some (.int .i64 m) := (blk_cell HB2.out.b4 0).trans rfl
  have c41 : w2.cell? ⟨w.heap.size, 1, none⟩ = some (.slice A M.length c) := (blk_cell HB2.out.b4 1).trans rfl
  have c50 : w2.cell? ⟨w.heap.size + 1, 0, none⟩ = some (.int .i64 3) := (blk_cell HB2.out.b5 0).trans rfl
  have c51 : w2.cell? ⟨w.heap.size + 1, 1, none⟩ = some (.int .i64 i) := (blk_cell HB2.out.b5 1).trans rfl
  have c52 : w2.cell? ⟨w.heap.size + 1, 2, none⟩ = some (.int .i64 x) := (blk_cell HB2.out.b5 2).trans rfl
  have c60 : w2.cell? ⟨w.heap.size + 1 + 1, 0, none⟩ = some (.int .i64 0) := (blk_cell HB2.out.b6 0).trans rfl
  have c61 : w2.cell? ⟨w.heap.size + 1 + 1, 1, none⟩ = some (.slice none 0 0) := (blk_cell HB2.out.b6 1).trans rfl
  have z60 : w2.frozen? ⟨w.heap.size + 1 + 1, 0, none⟩ = false := blk_frozen HB2.out.b6 0
  have z61 : w2.frozen? ⟨w.heap.size + 1 + 1, 1, none⟩ = false := blk_frozen HB2.out.b6 1
  go_upto_region 13 with (fail)
  rcases HA.out with ⟨rfl, k, z, hk, hz, rfl⟩ | ⟨rfl, rfl, hk⟩
  · have hz2 := (List.getElem?_eq_some_iff.1 hz).1
    have hC := (Kd.R_reads' HR2.out).2.2
    obtain ⟨inner, ho⟩ := Kd.R_own HR2.out
    rcases ho.2 with ⟨_, he⟩ | ⟨g, cap, cur, hv, _, hg, _⟩
    · omega
    obtain ⟨rfl, rfl⟩ : A = some ⟨g, 0, none⟩ ∧ c = cap := by simpa using hv
    obtain ⟨ad, e, r0, r1⟩ := at_row hC (Kp.refl w2 (fun _ => False)) (fun _ _ h => h) hz
    obtain rfl : ad = ⟨g, 0, none⟩ := by simpa using e.symm
    rw [Ti.add0] at r0 r1
    have hgb : g ≠ w.heap.size + 1 + 1 := blk_ne hg HB2.out.b6 (by decide)
    clear ho hg hC e r0 hv
    rw [hk]
    have q0 : ∀ u u', ((w2.setCell ⟨w.heap.size + 1 + 1, 0, none⟩ u).setCell ⟨w.heap.size + 1 + 1, 1, none⟩ u').cell? ⟨w.heap.size, 0, none⟩ = some (.int .i64 m) := fun u u' => (set2 (by omega) u u').trans c40
    have q1 : ∀ u u', ((w2.setCell ⟨w.heap.size + 1 + 1, 0, none⟩ u).setCell ⟨w.heap.size + 1 + 1, 1, none⟩ u').cell? ⟨w.heap.size, 1, none⟩ = some (.slice (some ⟨g, 0, none⟩) M.length c) := fun u u' => (set2 (by omega) u u').trans c41
    have q2 : ∀ u u', ((w2.setCell ⟨w.heap.size + 1 + 1, 0, none⟩ u).setCell ⟨w.heap.size + 1 + 1, 1, none⟩ u').cell? ⟨g, k * 2 + 1, none⟩ = some (.int .i64 z.f1) := fun u u' => (set2 hgb u u').trans r1
    go_region
    have FW : Aside0 ((((w2.setCell ⟨w.heap.size + 1 + 1, 0, none⟩ (.int .i64 m)).setCell ⟨w.heap.size + 1 + 1, 1, none⟩ (.slice (some ⟨g, 0, none⟩) M.length c)).drew).heap[w.heap.size + 1 + 1]? = some (.cells #[.int .i64 m, .slice (some ⟨g, 0, none⟩) M.length c] 34 (0, 0))) := ⟨blk_put (blk_put HB2.out.b6 0 _ rfl) 1 _ rfl⟩
    have FO : Aside0 (Out w0 w (((w2.setCell ⟨w.heap.size + 1 + 1, 0, none⟩ (.int .i64 m)).setCell ⟨w.heap.size + 1 + 1, 1, none⟩ (.slice (some ⟨g, 0, none⟩) M.length c)).drew) tb hb pb m b S (.returned (.tuple #[.agg #[.int .i64 m, .slice (some ⟨g, 0, none⟩) M.length c], .bool true]))) := ⟨out_mk (X := fun k => k = w.heap.size + 1 + 1) HST2.out HR2.out HRM.out HLN.out HKB2.out HFT2.out ((Kp.setCell (Kp.setCell (Kp.refl _ _) (by left; rfl) _) (by left; rfl) _).drew) (fun k hk => by omega) (fun k hk hs => HNB.out (by rw [← show k = w.heap.size + 2 from hk]; exact hs)) (fun k hk hr => by obtain ⟨_, cc, h2⟩ := hr; rw [show k = w.heap.size + 2 from hk, HB2.out.b6] at h2; cases h2) H00.out⟩
    generalize ((w2.setCell ⟨w.heap.size + 1 + 1, 0, none⟩ (.int .i64 m)).setCell ⟨w.heap.size + 1 + 1, 1, none⟩ (.slice (some ⟨g, 0, none⟩) M.length c)).drew = wf at *
    have f0 : wf.cell? ⟨w.heap.size + 1 + 1, 0, none⟩ = some (.int .i64 m) := (blk_cell FW.out 0).trans rfl
    have f1 : wf.cell? ⟨w.heap.size + 1 + 1, 1, none⟩ = some (.slice (some ⟨g, 0, none⟩) M.length c) := (blk_cell FW.out 1).trans rfl
    clear c60 c61 z60 z61 c40 c41 c50 c51 c52 r1 q0 q1 q2
    go_wp2
    refine bodyPost_ret (v := .tuple #[.agg #[.int .i64 m, .slice (some ⟨g, 0, none⟩) M.length c], .bool true]) ?_ rfl FO.out
    have hres : Try.f16.results = #[ResultVar.cell 6 34, ResultVar.tmp 7] := rfl
    simp only [results, hres]
    go_simp
  · rw [hk]
    have q0 : ∀ u u', ((w2.setCell ⟨w.heap.size + 1 + 1, 0, none⟩ u).setCell ⟨w.heap.size + 1 + 1, 1, none⟩ u').cell? ⟨w.heap.size, 0, none⟩ = some (.int .i64 m) := fun u u' => (set2 (by omega) u u').trans c40
    have q1 : ∀ u u', ((w2.setCell ⟨w.heap.size + 1 + 1, 0, none⟩ u).setCell ⟨w.heap.size + 1 + 1, 1, none⟩ u').cell? ⟨w.heap.size, 1, none⟩ = some (.slice A M.length c) := fun u u' => (set2 (by omega) u u').trans c41
    go_region
    have FW : Aside0 ((((w2.setCell ⟨w.heap.size + 1 + 1, 0, none⟩ (.int .i64 m)).setCell ⟨w.heap.size + 1 + 1, 1, none⟩ (.slice A M.length c)).drew).heap[w.heap.size + 1 + 1]? = some (.cells #[.int .i64 m, .slice A M.length c] 34 (0, 0))) := ⟨blk_put (blk_put HB2.out.b6 0 _ rfl) 1 _ rfl⟩
    have FO : Aside0 (Out w0 w (((w2.setCell ⟨w.heap.size + 1 + 1, 0, none⟩ (.int .i64 m)).setCell ⟨w.heap.size + 1 + 1, 1, none⟩ (.slice A M.length c)).drew) tb hb pb m b S (.returned (.tuple #[.agg #[.int .i64 m, .slice A M.length c], .bool true]))) := ⟨out_mk (X := fun k => k = w.heap.size + 1 + 1) HST2.out HR2.out HRM.out HLN.out HKB2.out HFT2.out ((Kp.setCell (Kp.setCell (Kp.refl _ _) (by left; rfl) _) (by left; rfl) _).drew) (fun k hk => by omega) (fun k hk hs => HNB.out (by rw [← show k = w.heap.size + 2 from hk]; exact hs)) (fun k hk hr => by obtain ⟨_, cc, h2⟩ := hr; rw [show k = w.heap.size + 2 from hk, HB2.out.b6] at h2; cases h2) H00.out⟩
    generalize ((w2.setCell ⟨w.heap.size + 1 + 1, 0, none⟩ (.int .i64 m)).setCell ⟨w.heap.size + 1 + 1, 1, none⟩ (.slice A M.length c)).drew = wf at *
    have f0 : wf.cell? ⟨w.heap.size + 1 + 1, 0, none⟩ = some (.int .i64 m) := (blk_cell FW.out 0).trans rfl
    have f1 : wf.cell? ⟨w.heap.size + 1 + 1, 1, none⟩ = some (.slice A M.length c) := (blk_cell FW.out 1).trans rfl
    clear c60 c61 z60 z61 c40 c41 c50 c51 c52 q0 q1
    go_wp2
    refine bodyPost_ret (v := .tuple #[.agg #[.int .i64 m, .slice A M.length c], .bool true]) ?_ rfl FO.out
    have hres : Try.f16.results = #[ResultVar.cell 6 34, ResultVar.tmp 7] := rfl
    simp only [results, hres]
    go_simp
set_option maxHeartbeats 4000000 in
set_option maxRecDepth 100000 in
theorem play4 {w0 w : World} {tb hb pb m b : Nat} {Ps : List (It Int Bool)} {held : Int} {S : Nat → Prop} {M : List S47} {A : Option Addr} {c : Nat} (h : Pq w0 w tb hb pb m Ps b held S (.slice A M.length c) M) (hb1 : b < 1000000) (i x : Int) :
    Calls Try.prog 16 #[.pointer (some ⟨tb, 0, none⟩), .agg #[.int .i64 m, .slice A M.length c], .agg #[.int .i64 4, .int .i64 i, .int .i64 x]] w fun e w' => Out w0 w w' tb hb pb m b S e := by
  have HLT : Aside0 (∀ k, S k → k < w.heap.size) := ⟨st_lt h.st⟩
  have H00 : Aside0 (w0.heap.size ≤ w.heap.size) := ⟨h.st.kept.size⟩
  have HSM := Aside0.mk h.small
  have HRM := Aside0.mk h.rm
  have ka : Kp w (((w.alloc (.cells #[.int .i64 m, .slice A M.length c] 34)).alloc (.cells #[.int .i64 4, .int .i64 i, .int .i64 x] 39)).alloc (.cells #[.int .i64 0, .slice none 0 0] 34)) (fun _ => False) := (((Kp.refl w _).alloc _).alloc _).alloc _
  have HB := Aside0.mk (bx_new w m 4 i x (.slice A M.length c))
  have HP := Aside0.mk (h.stay ka)
  have HKB0 : Aside0 (KB w (((w.alloc (.cells #[.int .i64 m, .slice A M.length c] 34)).alloc (.cells #[.int .i64 4, .int .i64 i, .int .i64 x] 39)).alloc (.cells #[.int .i64 0, .slice none 0 0] 34)) S) := ⟨KB.of_F ka S⟩
  have HSZ : Aside0 (w.heap.size ≤ (((w.alloc (.cells #[.int .i64 m, .slice A M.length c] 34)).alloc (.cells #[.int .i64 4, .int .i64 i, .int .i64 x] 39)).alloc (.cells #[.int .i64 0, .slice none 0 0] 34)).heap.size) := ⟨ka.size⟩
  obtain ⟨r, Ps2, M2, held2, hT, hA, hRM, hLN⟩ := plan_set h i x
  have HT := Aside0.mk hT
  have HA := Aside0.mk hA
  have HRM2 := Aside0.mk hRM
  have HLN := Aside0.mk hLN
  clear hT hA hRM hLN
  go_enter Try.func16, Try.ntmps16
  go_upto_region 1 with (fail)
  clear ka h
  generalize ((w.alloc (.cells #[.int .i64 m, .slice A M.length c] 34)).alloc (.cells #[.int .i64 4, .int .i64 i, .int .i64 x] 39)).alloc (.cells #[.int .i64 0, .slice none 0 0] 34) = wa at *
  have c40 : wa.cell? ⟨w.heap.size, 0, none⟩ = some (.int .i64 m) := (blk_cell HB.out.b4 0).trans rfl
  have c41 : wa.cell? ⟨w.heap.size, 1, none⟩ = some (.slice A M.length c) := (blk_cell HB.out.b4 1).trans rfl
  have c50 : wa.cell? ⟨w.heap.size + 1, 0, none⟩ = some (.int .i64 4) := (blk_cell HB.out.b5 0).trans rfl
  have c51 : wa.cell? ⟨w.heap.size + 1, 1, none⟩ = some (.int .i64 i) := (blk_cell HB.out.b5 1).trans rfl
  have c52 : wa.cell? ⟨w.heap.size + 1, 2, none⟩ = some (.int .i64 x) := (blk_cell HB.out.b5 2).trans rfl
  go_wp2_with fail
  refine (c_set HP.out.st HP.out.row HA.out).mono ?_
  rintro e w1 ⟨A1, c1, rfl, st1, row1, K1⟩
  have HST1 := Aside0.mk st1
  have HR1 := Aside0.mk row1
  have HKB1 : Aside0 (KB w w1 S) := ⟨HKB0.out.trans (KB.of_R K1 (fun _ => False)) (fun _ h => h.elim)⟩
  have HB1 := Aside0.mk (HB.out.keep (S := fun _ => False) (KB.of_R K1 _) (fun _ h => h.elim))
  clear c40 c41 c50 c51 c52
  clear K1 st1 row1
  go_upto_region 16 with (fail)
  have bn : (w1.alloc (.cells #[.int .i64 m, .slice A1 M2.length c1] 34)).heap[w1.heap.size]? = some (.cells #[.int .i64 m, .slice A1 M2.length c1] 34 (0, 0)) := heap_alloc_new _ _
  have kn : Kp w1 (w1.alloc (.cells #[.int .i64 m, .slice A1 M2.length c1] 34)) (fun _ => False) := (Kp.refl _ _).alloc _
  have HST2 := Aside0.mk (st_stay HST1.out kn)
  have HR2 := Aside0.mk (row_kept HR1.out kn (fun _ _ h => h))
  have HKB2 := Aside0.mk (HKB1.out.new kn (fun _ h => h.elim))
  have HB2 := Aside0.mk (HB1.out.keep (S := fun _ => False) (KB.of_F kn _) (fun _ h => h.elim))
  have HLE : Aside0 (w.heap.size + 2 < w1.heap.size) := ⟨blk_lt HB1.out.b6⟩
  clear kn
  generalize w1.alloc (.cells #[.int .i64 m, .slice A1 M2.length c1] 34) = w2 at *
  generalize w1.heap.size = bx at *
  have BN := Aside0.mk bn
  have cn0 : w2.cell? ⟨bx, 0, none⟩ = some (.int .i64 m) := (blk_cell bn 0).trans rfl
  have cn1 : w2.cell? ⟨bx, 1, none⟩ = some (.slice A1 M2.length c1) := (blk_cell bn 1).trans rfl
  clear bn
  have c40 : w2.cell? ⟨w.heap.size, 0, none⟩ = some (.int .i64 m) := (blk_cell HB2.out.b4 0).trans rfl
  have c41 : w2.cell? ⟨w.heap.size, 1, none⟩ = some (.slice A M.length c) := (blk_cell HB2.out.b4 1).trans rfl
  have c50 : w2.cell? ⟨w.heap.size + 1, 0, none⟩ = some (.int .i64 4) := (blk_cell HB2.out.b5 0).trans rfl
  have c51 : w2.cell? ⟨w.heap.size + 1, 1, none⟩ = some (.int .i64 i) := (blk_cell HB2.out.b5 1).trans rfl
  have c52 : w2.cell? ⟨w.heap.size + 1, 2, none⟩ = some (.int .i64 x) := (blk_cell HB2.out.b5 2).trans rfl
  go_region_held3 (fun w' => w'.cell? ⟨bx, 0, none⟩ = some (.int .i64 m) ∧ w'.cell? ⟨bx, 1, none⟩ = some (.slice A1 M2.length c1) ∧ w'.cell? ⟨w.heap.size + 1, 1, none⟩ = some (.int .i64 i) ∧ w'.cell? ⟨w.heap.size + 1, 2, none⟩ = some (.int .i64 x)) (first | exact ⟨cn0, cn1, c51, c52⟩ | exact D1.out | exact ⟨(set2 (by have := HLE.out; omega) _ _).trans D1.out.1, (set2 (by have := HLE.out; omega) _ _).trans D1.out.2.1, (set2 (by omega) _ _).trans D1.out.2.2.1, (set2 (by omega) _ _).trans D1.out.2.2.2⟩)
    (first | (go_at_call 20; go_must ((refine (HT.out _ S (st_stay HST2.out ((Kp.refl w2 _).drew))).mono ?_); rintro e w3 ⟨rfl, S3, st3, T3⟩; have kT : KB w2 w3 S := (KB.of_F ((Kp.refl w2 (fun _ => False)).drew) S).trans (KB.of_S T3.kp) (fun k hk => .inl hk); have HB3 := Aside0.mk (HB2.out.keep kT HLT.out); have bn3 := kT _ _ _ (.inl rfl) BN.out (fun hs => by have h1 := HLT.out _ hs; have h2 := HLE.out; omega); have c60 : w3.cell? ⟨w.heap.size + 1 + 1, 0, none⟩ = some (.int .i64 0) := (blk_cell HB3.out.b6 0).trans rfl; have c61 : w3.cell? ⟨w.heap.size + 1 + 1, 1, none⟩ = some (.slice none 0 0) := (blk_cell HB3.out.b6 1).trans rfl; have z60 : w3.frozen? ⟨w.heap.size + 1 + 1, 0, none⟩ = false := blk_frozen HB3.out.b6 0; have z61 : w3.frozen? ⟨w.heap.size + 1 + 1, 1, none⟩ = false := blk_frozen HB3.out.b6 1; have D1 := Aside0.mk (And.intro ((blk_cell bn3 0).trans rfl : w3.cell? ⟨bx, 0, none⟩ = some (.int .i64 m)) (And.intro ((blk_cell bn3 1).trans rfl : w3.cell? ⟨bx, 1, none⟩ = some (.slice A1 M2.length c1)) (And.intro ((blk_cell HB3.out.b5 1).trans rfl : w3.cell? ⟨w.heap.size + 1, 1, none⟩ = some (.int .i64 i)) ((blk_cell HB3.out.b5 2).trans rfl : w3.cell? ⟨w.heap.size + 1, 2, none⟩ = some (.int .i64 x))))); have HST3 := Aside0.mk st3; have HR3 := Aside0.mk (row_kept (row_kept HR2.out ((Kp.refl w2 (fun _ => False)).drew) (fun _ _ h => h)) T3.kp (fun k hk hs => st_types (st_stay HST2.out ((Kp.refl w2 (fun _ => False)).drew)) hs hk)); have HKB3 := Aside0.mk (HKB2.out.trans kT (fun k hk => .inl hk)); have HFT3 : Aside0 (∀ k, S3 k → S k ∨ w.heap.size ≤ k) := ⟨fun k hk => (T3.foot k hk).imp id (fun h => by have h1 := blk_lt HB2.out.b6; have h2 : w2.heap.size ≤ k := h; omega)⟩; have HNB : Aside0 (¬ S3 (w.heap.size + 2)) := ⟨fun hs => by have h1 := blk_lt HB2.out.b6; exact (T3.foot _ hs).elim (fun h2 => by have := HLT.out _ h2; omega) (fun h2 => by have h3 : w2.heap.size ≤ w.heap.size + 2 := h2; omega)⟩; clear kT st3 T3 bn3)))
  have FW : Aside0 ((((w3.setCell ⟨w.heap.size + 1 + 1, 0, none⟩ (.int .i64 m)).setCell ⟨w.heap.size + 1 + 1, 1, none⟩ (.slice A1 M2.length c1))).heap[w.heap.size + 1 + 1]? = some (.cells #[.int .i64 m, .slice A1 M2.length c1] 34 (0, 0))) := ⟨blk_put (blk_put HB3.out.b6 0 _ rfl) 1 _ rfl⟩
  have FO : Aside0 (Out w0 w (((w3.setCell ⟨w.heap.size + 1 + 1, 0, none⟩ (.int .i64 m)).setCell ⟨w.heap.size + 1 + 1, 1, none⟩ (.slice A1 M2.length c1))) tb hb pb m b S (.returned (.tuple #[.agg #[.int .i64 m, .slice A1 M2.length c1], .bool true]))) := ⟨out_mk (X := fun k => k = w.heap.size + 1 + 1) HST3.out HR3.out HRM2.out HLN.out HKB3.out HFT3.out ((Kp.setCell (Kp.setCell (Kp.refl _ _) (by left; rfl) _) (by left; rfl) _)) (fun k hk => by omega) (fun k hk hs => HNB.out (by rw [← show k = w.heap.size + 2 from hk]; exact hs)) (fun k hk hr => by obtain ⟨_, cc, h2⟩ := hr; rw [show k = w.heap.size + 2 from hk, HB3.out.b6] at h2; cases h2) H00.out⟩
  generalize ((w3.setCell ⟨w.heap.size + 1 + 1, 0, none⟩ (.int .i64 m)).setCell ⟨w.heap.size + 1 + 1, 1, none⟩ (.slice A1 M2.length c1)) = wf at *
  have f0 : wf.cell? ⟨w.heap.size + 1 + 1, 0, none⟩ = some (.int .i64 m) := (blk_cell FW.out 0).trans rfl
  have f1 : wf.cell? ⟨w.heap.size + 1 + 1, 1, none⟩ = some (.slice A1 M2.length c1) := (blk_cell FW.out 1).trans rfl
  clear c60 c61 z60 z61 cn0 cn1 c40 c41 c50 c51 c52
  go_wp2
  refine bodyPost_ret (v := .tuple #[.agg #[.int .i64 m, .slice A1 M2.length c1], .bool true]) ?_ rfl FO.out
  have hres : Try.f16.results = #[ResultVar.cell 6 34, ResultVar.tmp 7] := rfl
  simp only [results, hres]
  go_simp
set_option maxHeartbeats 4000000 in
set_option maxRecDepth 100000 in
theorem play5 {w0 w : World} {tb hb pb m b : Nat} {Ps : List (It Int Bool)} {held : Int} {S : Nat → Prop} {M : List S47} {A : Option Addr} {c : Nat} (h : Pq w0 w tb hb pb m Ps b held S (.slice A M.length c) M) (hb1 : b < 1000000) (i x : Int) :
    Calls Try.prog 16 #[.pointer (some ⟨tb, 0, none⟩), .agg #[.int .i64 m, .slice A M.length c], .agg #[.int .i64 5, .int .i64 i, .int .i64 x]] w fun e w' => Out w0 w w' tb hb pb m b S e := by
  have HLT : Aside0 (∀ k, S k → k < w.heap.size) := ⟨st_lt h.st⟩
  have H00 : Aside0 (w0.heap.size ≤ w.heap.size) := ⟨h.st.kept.size⟩
  have HSM := Aside0.mk h.small
  have HRM := Aside0.mk h.rm
  have ka : Kp w (((w.alloc (.cells #[.int .i64 m, .slice A M.length c] 34)).alloc (.cells #[.int .i64 5, .int .i64 i, .int .i64 x] 39)).alloc (.cells #[.int .i64 0, .slice none 0 0] 34)) (fun _ => False) := (((Kp.refl w _).alloc _).alloc _).alloc _
  have HB := Aside0.mk (bx_new w m 5 i x (.slice A M.length c))
  have HP := Aside0.mk (h.stay ka)
  have HKB0 : Aside0 (KB w (((w.alloc (.cells #[.int .i64 m, .slice A M.length c] 34)).alloc (.cells #[.int .i64 5, .int .i64 i, .int .i64 x] 39)).alloc (.cells #[.int .i64 0, .slice none 0 0] 34)) S) := ⟨KB.of_F ka S⟩
  have HSZ : Aside0 (w.heap.size ≤ (((w.alloc (.cells #[.int .i64 m, .slice A M.length c] 34)).alloc (.cells #[.int .i64 5, .int .i64 i, .int .i64 x] 39)).alloc (.cells #[.int .i64 0, .slice none 0 0] 34)).heap.size) := ⟨ka.size⟩
  obtain ⟨r, y, Ps2, M2, held2, hT, hA, hRM, hLN⟩ := plan_drop h hb1 i
  have HT := Aside0.mk hT
  have HA := Aside0.mk hA
  have HRM2 := Aside0.mk hRM
  have HLN := Aside0.mk hLN
  clear hT hA hRM hLN
  go_enter Try.func16, Try.ntmps16
  go_upto_region 1 with (fail)
  clear ka h
  generalize ((w.alloc (.cells #[.int .i64 m, .slice A M.length c] 34)).alloc (.cells #[.int .i64 5, .int .i64 i, .int .i64 x] 39)).alloc (.cells #[.int .i64 0, .slice none 0 0] 34) = wa at *
  have c40 : wa.cell? ⟨w.heap.size, 0, none⟩ = some (.int .i64 m) := (blk_cell HB.out.b4 0).trans rfl
  have c41 : wa.cell? ⟨w.heap.size, 1, none⟩ = some (.slice A M.length c) := (blk_cell HB.out.b4 1).trans rfl
  have c50 : wa.cell? ⟨w.heap.size + 1, 0, none⟩ = some (.int .i64 5) := (blk_cell HB.out.b5 0).trans rfl
  have c51 : wa.cell? ⟨w.heap.size + 1, 1, none⟩ = some (.int .i64 i) := (blk_cell HB.out.b5 1).trans rfl
  have c52 : wa.cell? ⟨w.heap.size + 1, 2, none⟩ = some (.int .i64 x) := (blk_cell HB.out.b5 2).trans rfl
  go_wp2_with fail
  refine (HT.out wa S HP.out.st).mono ?_
  rintro e w1 ⟨rfl, S1, st1, T1⟩
  have row1 := row_kept HP.out.row T1.kp (fun k hk hs => st_types HP.out.st hs hk)
  have kb1 := HKB0.out.trans (KB.of_S T1.kp) (fun k hk => .inl hk)
  have HB1 := Aside0.mk (HB.out.keep (KB.of_S T1.kp) HLT.out)
  have HST1 := Aside0.mk st1
  have HR1 := Aside0.mk row1
  have HKB1 := Aside0.mk kb1
  have HFT2 : Aside0 (∀ k, S1 k → S k ∨ w.heap.size ≤ k) := ⟨fun k hk => (T1.foot k hk).imp id (fun h => Nat.le_trans HSZ.out h)⟩
  have HNB : Aside0 (¬ S1 (w.heap.size + 2)) := ⟨fun hs => by
    have h1 := blk_lt HB.out.b6
    rcases T1.foot _ hs with h2 | h2
    · have := HLT.out _ h2; omega
    · omega⟩
  clear c40 c41 c50 c51 c52
  clear st1 row1 kb1 T1
  have c40 : w1.cell? ⟨w.heap.size, 0, none⟩ = some (.int .i64 m) := (blk_cell HB1.out.b4 0).trans rfl
  have c41 : w1.cell? ⟨w.heap.size, 1, none⟩ = some (.slice A M.length c) := (blk_cell HB1.out.b4 1).trans rfl
  have c50 : w1.cell? ⟨w.heap.size + 1, 0, none⟩ = some (.int .i64 5) := (blk_cell HB1.out.b5 0).trans rfl
  have c51 : w1.cell? ⟨w.heap.size + 1, 1, none⟩ = some (.int .i64 i) := (blk_cell HB1.out.b5 1).trans rfl
  have c52 : w1.cell? ⟨w.heap.size + 1, 2, none⟩ = some (.int .i64 x) := (blk_cell HB1.out.b5 2).trans rfl
  go_wp2_with fail
  refine (c_rdrop HST1.out HR1.out HA.out).mono ?_
  rintro e w2 ⟨A3, c3, rfl, st3, row3, K3⟩
  have HST2 := Aside0.mk st3
  have HR2 := Aside0.mk row3
  have HKB2 : Aside0 (KB w w2 S) := ⟨HKB1.out.trans (KB.of_R K3 (fun _ => False)) (fun _ h => h.elim)⟩
  have HB2 := Aside0.mk (HB1.out.keep (S := fun _ => False) (KB.of_R K3 _) (fun _ h => h.elim))
  clear c40 c41 c50 c51 c52
  clear K3 st3 row3
  go_upto_region 20 with (fail)
  have bn : (w2.alloc (.cells #[.int .i64 m, .slice A3 M2.length c3] 34)).heap[w2.heap.size]? = some (.cells #[.int .i64 m, .slice A3 M2.length c3] 34 (0, 0)) := heap_alloc_new _ _
  have kn : Kp w2 (w2.alloc (.cells #[.int .i64 m, .slice A3 M2.length c3] 34)) (fun _ => False) := (Kp.refl _ _).alloc _
  have HST3 := Aside0.mk (st_stay HST2.out kn)
  have HR3 := Aside0.mk (row_kept HR2.out kn (fun _ _ h => h))
  have HKB3 := Aside0.mk (HKB2.out.new kn (fun _ h => h.elim))
  have HB3 := Aside0.mk (HB2.out.keep (S := fun _ => False) (KB.of_F kn _) (fun _ h => h.elim))
  have HLE : Aside0 (w.heap.size + 2 < w2.heap.size) := ⟨blk_lt HB2.out.b6⟩
  clear kn
  generalize w2.alloc (.cells #[.int .i64 m, .slice A3 M2.length c3] 34) = w3 at *
  generalize w2.heap.size = bx at *
  have BN := Aside0.mk bn
  have cn0 : w3.cell? ⟨bx, 0, none⟩ = some (.int .i64 m) := (blk_cell bn 0).trans rfl
  have cn1 : w3.cell? ⟨bx, 1, none⟩ = some (.slice A3 M2.length c3) := (blk_cell bn 1).trans rfl
  clear bn
  have c60 : w3.cell? ⟨w.heap.size + 1 + 1, 0, none⟩ = some (.int .i64 0) := (blk_cell HB3.out.b6 0).trans rfl
  have c61 : w3.cell? ⟨w.heap.size + 1 + 1, 1, none⟩ = some (.slice none 0 0) := (blk_cell HB3.out.b6 1).trans rfl
  have z60 : w3.frozen? ⟨w.heap.size + 1 + 1, 0, none⟩ = false := blk_frozen HB3.out.b6 0
  have z61 : w3.frozen? ⟨w.heap.size + 1 + 1, 1, none⟩ = false := blk_frozen HB3.out.b6 1
  go_wp2
  have FW : Aside0 ((((w3.setCell ⟨w.heap.size + 1 + 1, 0, none⟩ (.int .i64 m)).setCell ⟨w.heap.size + 1 + 1, 1, none⟩ (.slice A3 M2.length c3))).heap[w.heap.size + 1 + 1]? = some (.cells #[.int .i64 m, .slice A3 M2.length c3] 34 (0, 0))) := ⟨blk_put (blk_put HB3.out.b6 0 _ rfl) 1 _ rfl⟩
  have FO : Aside0 (Out w0 w (((w3.setCell ⟨w.heap.size + 1 + 1, 0, none⟩ (.int .i64 m)).setCell ⟨w.heap.size + 1 + 1, 1, none⟩ (.slice A3 M2.length c3))) tb hb pb m b S (.returned (.tuple #[.agg #[.int .i64 m, .slice A3 M2.length c3], .bool true]))) := ⟨out_mk (X := fun k => k = w.heap.size + 1 + 1) HST3.out HR3.out HRM2.out HLN.out HKB3.out HFT2.out ((Kp.setCell (Kp.setCell (Kp.refl _ _) (by left; rfl) _) (by left; rfl) _)) (fun k hk => by omega) (fun k hk hs => HNB.out (by rw [← show k = w.heap.size + 2 from hk]; exact hs)) (fun k hk hr => by obtain ⟨_, cc, h2⟩ := hr; rw [show k = w.heap.size + 2 from hk, HB3.out.b6] at h2; cases h2) H00.out⟩
  generalize ((w3.setCell ⟨w.heap.size + 1 + 1, 0, none⟩ (.int .i64 m)).setCell ⟨w.heap.size + 1 + 1, 1, none⟩ (.slice A3 M2.length c3)) = wf at *
  have f0 : wf.cell? ⟨w.heap.size + 1 + 1, 0, none⟩ = some (.int .i64 m) := (blk_cell FW.out 0).trans rfl
  have f1 : wf.cell? ⟨w.heap.size + 1 + 1, 1, none⟩ = some (.slice A3 M2.length c3) := (blk_cell FW.out 1).trans rfl
  clear c60 c61 z60 z61 cn0 cn1
  refine bodyPost_ret (v := .tuple #[.agg #[.int .i64 m, .slice A3 M2.length c3], .bool true]) ?_ rfl FO.out
  have hres : Try.f16.results = #[ResultVar.cell 6 34, ResultVar.tmp 7] := rfl
  simp only [results, hres]
  go_simp
set_option maxHeartbeats 4000000 in
set_option maxRecDepth 100000 in
theorem play6 {w0 w : World} {tb hb pb m b : Nat} {Ps : List (It Int Bool)} {held : Int} {S : Nat → Prop} {M : List S47} {A : Option Addr} {c : Nat} (h : Pq w0 w tb hb pb m Ps b held S (.slice A M.length c) M) (hb1 : b < 1000000) (i x : Int) :
    Calls Try.prog 16 #[.pointer (some ⟨tb, 0, none⟩), .agg #[.int .i64 m, .slice A M.length c], .agg #[.int .i64 6, .int .i64 i, .int .i64 x]] w fun e w' => Out w0 w w' tb hb pb m b S e := by
  have HLT : Aside0 (∀ k, S k → k < w.heap.size) := ⟨st_lt h.st⟩
  have H00 : Aside0 (w0.heap.size ≤ w.heap.size) := ⟨h.st.kept.size⟩
  have HSM := Aside0.mk h.small
  have HRM := Aside0.mk h.rm
  have ka : Kp w (((w.alloc (.cells #[.int .i64 m, .slice A M.length c] 34)).alloc (.cells #[.int .i64 6, .int .i64 i, .int .i64 x] 39)).alloc (.cells #[.int .i64 0, .slice none 0 0] 34)) (fun _ => False) := (((Kp.refl w _).alloc _).alloc _).alloc _
  have HB := Aside0.mk (bx_new w m 6 i x (.slice A M.length c))
  have HP := Aside0.mk (h.stay ka)
  have HKB0 : Aside0 (KB w (((w.alloc (.cells #[.int .i64 m, .slice A M.length c] 34)).alloc (.cells #[.int .i64 6, .int .i64 i, .int .i64 x] 39)).alloc (.cells #[.int .i64 0, .slice none 0 0] 34)) S) := ⟨KB.of_F ka S⟩
  have HSZ : Aside0 (w.heap.size ≤ (((w.alloc (.cells #[.int .i64 m, .slice A M.length c] 34)).alloc (.cells #[.int .i64 6, .int .i64 i, .int .i64 x] 39)).alloc (.cells #[.int .i64 0, .slice none 0 0] 34)).heap.size) := ⟨ka.size⟩
  have HF := Aside0.mk (free_f h.rm h.small (st_held h.st).2 h.st.small)
  go_enter Try.func16, Try.ntmps16
  go_upto_region 1 with (fail)
  clear ka h
  generalize ((w.alloc (.cells #[.int .i64 m, .slice A M.length c] 34)).alloc (.cells #[.int .i64 6, .int .i64 i, .int .i64 x] 39)).alloc (.cells #[.int .i64 0, .slice none 0 0] 34) = wa at *
  have c40 : wa.cell? ⟨w.heap.size, 0, none⟩ = some (.int .i64 m) := (blk_cell HB.out.b4 0).trans rfl
  have c41 : wa.cell? ⟨w.heap.size, 1, none⟩ = some (.slice A M.length c) := (blk_cell HB.out.b4 1).trans rfl
  have c50 : wa.cell? ⟨w.heap.size + 1, 0, none⟩ = some (.int .i64 6) := (blk_cell HB.out.b5 0).trans rfl
  have c51 : wa.cell? ⟨w.heap.size + 1, 1, none⟩ = some (.int .i64 i) := (blk_cell HB.out.b5 1).trans rfl
  have c52 : wa.cell? ⟨w.heap.size + 1, 2, none⟩ = some (.int .i64 x) := (blk_cell HB.out.b5 2).trans rfl
  go_upto_region 22 with (fail)
  go_region_held3 (fun w' => w'.cell? ⟨w.heap.size, 0, none⟩ = some (.int .i64 m) ∧ w'.cell? ⟨w.heap.size, 1, none⟩ = some (.slice A M.length c)) (first | exact ⟨c40, c41⟩ | exact D4.out | exact D3.out | exact ⟨(set2 (by omega) _ _).trans D4.out.1, (set2 (by omega) _ _).trans D4.out.2⟩)
    (first | (go_at_call 12; go_must ((refine (free_q (st_stay HP.out.st ((Kp.refl wa _).drew))).mono ?_); rintro e w3 ⟨rfl, K3⟩; have K03 := Aside0.mk (((Kp.refl wa (fun _ => False)).drew).then_ K3 (fun _ h => h.elim)); have HP3 := Aside0.mk (HP.out.stay K03.out); have HB3 := Aside0.mk (HB.out.keep (S := fun _ => False) (KB.of_F K03.out _) (fun _ h => h.elim)); have D3 := Aside0.mk (And.intro ((blk_cell HB3.out.b4 0).trans rfl : w3.cell? ⟨w.heap.size, 0, none⟩ = some (.int .i64 m)) ((blk_cell HB3.out.b4 1).trans rfl : w3.cell? ⟨w.heap.size, 1, none⟩ = some (.slice A M.length c))); clear K3)) | (go_at_call 35; go_must ((refine (c_free HP3.out.row HF.out).mono ?_); rintro e w4 ⟨rfl, K4⟩; have K04 := Aside0.mk (K03.out.then_ K4 (fun _ h => h.elim)); have HP4 := Aside0.mk (HP.out.stay K04.out); have HB4 := Aside0.mk (HB.out.keep (S := fun _ => False) (KB.of_F K04.out _) (fun _ h => h.elim)); have c60 : w4.cell? ⟨w.heap.size + 1 + 1, 0, none⟩ = some (.int .i64 0) := (blk_cell HB4.out.b6 0).trans rfl; have c61 : w4.cell? ⟨w.heap.size + 1 + 1, 1, none⟩ = some (.slice none 0 0) := (blk_cell HB4.out.b6 1).trans rfl; have z60 : w4.frozen? ⟨w.heap.size + 1 + 1, 0, none⟩ = false := blk_frozen HB4.out.b6 0; have z61 : w4.frozen? ⟨w.heap.size + 1 + 1, 1, none⟩ = false := blk_frozen HB4.out.b6 1; have D4 := Aside0.mk (And.intro ((blk_cell HB4.out.b4 0).trans rfl : w4.cell? ⟨w.heap.size, 0, none⟩ = some (.int .i64 m)) ((blk_cell HB4.out.b4 1).trans rfl : w4.cell? ⟨w.heap.size, 1, none⟩ = some (.slice A M.length c))); clear K4)))
  have HNB : Aside0 (¬ S (w.heap.size + 2)) := ⟨fun hs => by have := HLT.out _ hs; omega⟩
  have FW : Aside0 ((((w4.setCell ⟨w.heap.size + 1 + 1, 0, none⟩ (.int .i64 m)).setCell ⟨w.heap.size + 1 + 1, 1, none⟩ (.slice A M.length c))).heap[w.heap.size + 1 + 1]? = some (.cells #[.int .i64 m, .slice A M.length c] 34 (0, 0))) := ⟨blk_put (blk_put HB4.out.b6 0 _ rfl) 1 _ rfl⟩
  have FO : Aside0 (Out w0 w (((w4.setCell ⟨w.heap.size + 1 + 1, 0, none⟩ (.int .i64 m)).setCell ⟨w.heap.size + 1 + 1, 1, none⟩ (.slice A M.length c))) tb hb pb m b S (.returned (.tuple #[.agg #[.int .i64 m, .slice A M.length c], .bool true]))) := ⟨out_mk (X := fun k => k = w.heap.size + 1 + 1) (st_b HP4.out.st (by omega)) HP4.out.row HP4.out.rm HP4.out.len (HKB0.out.new K04.out (fun _ h => h.elim)) (fun k hk => .inl hk) ((Kp.setCell (Kp.setCell (Kp.refl _ _) (by left; rfl) _) (by left; rfl) _)) (fun k hk => by omega) (fun k hk hs => HNB.out (by rw [← show k = w.heap.size + 2 from hk]; exact hs)) (fun k hk hr => by obtain ⟨_, cc, h2⟩ := hr; rw [show k = w.heap.size + 2 from hk, HB4.out.b6] at h2; cases h2) H00.out⟩
  generalize ((w4.setCell ⟨w.heap.size + 1 + 1, 0, none⟩ (.int .i64 m)).setCell ⟨w.heap.size + 1 + 1, 1, none⟩ (.slice A M.length c)) = wf at *
  have f0 : wf.cell? ⟨w.heap.size + 1 + 1, 0, none⟩ = some (.int .i64 m) := (blk_cell FW.out 0).trans rfl
  have f1 : wf.cell? ⟨w.heap.size + 1 + 1, 1, none⟩ = some (.slice A M.length c) := (blk_cell FW.out 1).trans rfl
  clear c60 c61 z60 z61 c40 c41 c50 c51 c52
  go_wp2
  refine bodyPost_ret (v := .tuple #[.agg #[.int .i64 m, .slice A M.length c], .bool true]) ?_ rfl FO.out
  have hres : Try.f16.results = #[ResultVar.cell 6 34, ResultVar.tmp 7] := rfl
  simp only [results, hres]
  go_simp
set_option maxHeartbeats 4000000 in
set_option maxRecDepth 100000 in
theorem play0 {w0 w : World} {tb hb pb m b : Nat} {Ps : List (It Int Bool)} {held : Int} {S : Nat → Prop} {M : List S47} {A : Option Addr} {c : Nat} (h : Pq w0 w tb hb pb m Ps b held S (.slice A M.length c) M) (hb1 : b < 1000000) {kd : Int} (k1 : kd ≠ 1) (k2 : kd ≠ 2) (k3 : kd ≠ 3) (k4 : kd ≠ 4) (k5 : kd ≠ 5) (k6 : kd ≠ 6) (i x : Int) :
    Calls Try.prog 16 #[.pointer (some ⟨tb, 0, none⟩), .agg #[.int .i64 m, .slice A M.length c], .agg #[.int .i64 kd, .int .i64 i, .int .i64 x]] w fun e w' => Out w0 w w' tb hb pb m b S e := by
  have HLT : Aside0 (∀ k, S k → k < w.heap.size) := ⟨st_lt h.st⟩
  have H00 : Aside0 (w0.heap.size ≤ w.heap.size) := ⟨h.st.kept.size⟩
  have HSM := Aside0.mk h.small
  have HRM := Aside0.mk h.rm
  have ka : Kp w (((w.alloc (.cells #[.int .i64 m, .slice A M.length c] 34)).alloc (.cells #[.int .i64 kd, .int .i64 i, .int .i64 x] 39)).alloc (.cells #[.int .i64 0, .slice none 0 0] 34)) (fun _ => False) := (((Kp.refl w _).alloc _).alloc _).alloc _
  have HB := Aside0.mk (bx_new w m kd i x (.slice A M.length c))
  have HP := Aside0.mk (h.stay ka)
  have HKB0 : Aside0 (KB w (((w.alloc (.cells #[.int .i64 m, .slice A M.length c] 34)).alloc (.cells #[.int .i64 kd, .int .i64 i, .int .i64 x] 39)).alloc (.cells #[.int .i64 0, .slice none 0 0] 34)) S) := ⟨KB.of_F ka S⟩
  have HSZ : Aside0 (w.heap.size ≤ (((w.alloc (.cells #[.int .i64 m, .slice A M.length c] 34)).alloc (.cells #[.int .i64 kd, .int .i64 i, .int .i64 x] 39)).alloc (.cells #[.int .i64 0, .slice none 0 0] 34)).heap.size) := ⟨ka.size⟩
  have e1 : (kd == 1) = false := by simpa using k1
  have e2 : (kd == 2) = false := by simpa using k2
  have e3 : (kd == 3) = false := by simpa using k3
  have e4 : (kd == 4) = false := by simpa using k4
  have e5 : (kd == 5) = false := by simpa using k5
  have e6 : (kd == 6) = false := by simpa using k6
  clear k1 k2 k3 k4 k5 k6
  go_enter Try.func16, Try.ntmps16
  go_upto_region 1 with (fail)
  clear ka h
  generalize ((w.alloc (.cells #[.int .i64 m, .slice A M.length c] 34)).alloc (.cells #[.int .i64 kd, .int .i64 i, .int .i64 x] 39)).alloc (.cells #[.int .i64 0, .slice none 0 0] 34) = wa at *
  have c40 : wa.cell? ⟨w.heap.size, 0, none⟩ = some (.int .i64 m) := (blk_cell HB.out.b4 0).trans rfl
  have c41 : wa.cell? ⟨w.heap.size, 1, none⟩ = some (.slice A M.length c) := (blk_cell HB.out.b4 1).trans rfl
  have c50 : wa.cell? ⟨w.heap.size + 1, 0, none⟩ = some (.int .i64 kd) := (blk_cell HB.out.b5 0).trans rfl
  have c51 : wa.cell? ⟨w.heap.size + 1, 1, none⟩ = some (.int .i64 i) := (blk_cell HB.out.b5 1).trans rfl
  have c52 : wa.cell? ⟨w.heap.size + 1, 2, none⟩ = some (.int .i64 x) := (blk_cell HB.out.b5 2).trans rfl
  go_upto_region 23 with (fail)
  go_region_held3 (fun w' => w'.cell? ⟨w.heap.size, 0, none⟩ = some (.int .i64 m) ∧ w'.cell? ⟨w.heap.size, 1, none⟩ = some (.slice A M.length c) ∧ w'.cell? ⟨w.heap.size + 1, 1, none⟩ = some (.int .i64 i)) (first | exact ⟨c40, c41, c51⟩ | exact D4.out | exact ⟨(set2 (by omega) _ _).trans D4.out.1, (set2 (by omega) _ _).trans D4.out.2.1, (set2 (by omega) _ _).trans D4.out.2.2⟩)
    (first | (go_at_call 40; go_must ((refine (Ti.next_st (st_stay HP.out.st ((Kp.refl wa _).drew)) i).mono ?_); rintro e w3 ⟨r, rfl, hr, rfl⟩; have HN := Aside0.mk hr; clear hr)) | (go_at_call 41; go_must ((refine (c_next (HP.out.stay ((Kp.refl wa (fun _ => False)).drew)).row HP.out.rm HP.out.small HN.out).mono ?_); rintro e w4 ⟨rfl, K4⟩; have K04 := Aside0.mk (((Kp.refl wa (fun _ => False)).drew).then_ K4 (fun _ h => h.elim)); have HP4 := Aside0.mk (HP.out.stay K04.out); have HB4 := Aside0.mk (HB.out.keep (S := fun _ => False) (KB.of_F K04.out _) (fun _ h => h.elim)); have c60 : w4.cell? ⟨w.heap.size + 1 + 1, 0, none⟩ = some (.int .i64 0) := (blk_cell HB4.out.b6 0).trans rfl; have c61 : w4.cell? ⟨w.heap.size + 1 + 1, 1, none⟩ = some (.slice none 0 0) := (blk_cell HB4.out.b6 1).trans rfl; have z60 : w4.frozen? ⟨w.heap.size + 1 + 1, 0, none⟩ = false := blk_frozen HB4.out.b6 0; have z61 : w4.frozen? ⟨w.heap.size + 1 + 1, 1, none⟩ = false := blk_frozen HB4.out.b6 1; have D4 := Aside0.mk (And.intro ((blk_cell HB4.out.b4 0).trans rfl : w4.cell? ⟨w.heap.size, 0, none⟩ = some (.int .i64 m)) (And.intro ((blk_cell HB4.out.b4 1).trans rfl : w4.cell? ⟨w.heap.size, 1, none⟩ = some (.slice A M.length c)) ((blk_cell HB4.out.b5 1).trans rfl : w4.cell? ⟨w.heap.size + 1, 1, none⟩ = some (.int .i64 i)))); clear K4)))
  have HNB : Aside0 (¬ S (w.heap.size + 2)) := ⟨fun hs => by have := HLT.out _ hs; omega⟩
  have FW : Aside0 ((((w4.setCell ⟨w.heap.size + 1 + 1, 0, none⟩ (.int .i64 m)).setCell ⟨w.heap.size + 1 + 1, 1, none⟩ (.slice A M.length c))).heap[w.heap.size + 1 + 1]? = some (.cells #[.int .i64 m, .slice A M.length c] 34 (0, 0))) := ⟨blk_put (blk_put HB4.out.b6 0 _ rfl) 1 _ rfl⟩
  have FO : Aside0 (Out w0 w (((w4.setCell ⟨w.heap.size + 1 + 1, 0, none⟩ (.int .i64 m)).setCell ⟨w.heap.size + 1 + 1, 1, none⟩ (.slice A M.length c))) tb hb pb m b S (.returned (.tuple #[.agg #[.int .i64 m, .slice A M.length c], .bool true]))) := ⟨out_mk (X := fun k => k = w.heap.size + 1 + 1) (st_b HP4.out.st (by omega)) HP4.out.row HP4.out.rm HP4.out.len (HKB0.out.new K04.out (fun _ h => h.elim)) (fun k hk => .inl hk) ((Kp.setCell (Kp.setCell (Kp.refl _ _) (by left; rfl) _) (by left; rfl) _)) (fun k hk => by omega) (fun k hk hs => HNB.out (by rw [← show k = w.heap.size + 2 from hk]; exact hs)) (fun k hk hr => by obtain ⟨_, cc, h2⟩ := hr; rw [show k = w.heap.size + 2 from hk, HB4.out.b6] at h2; cases h2) H00.out⟩
  generalize ((w4.setCell ⟨w.heap.size + 1 + 1, 0, none⟩ (.int .i64 m)).setCell ⟨w.heap.size + 1 + 1, 1, none⟩ (.slice A M.length c)) = wf at *
  have f0 : wf.cell? ⟨w.heap.size + 1 + 1, 0, none⟩ = some (.int .i64 m) := (blk_cell FW.out 0).trans rfl
  have f1 : wf.cell? ⟨w.heap.size + 1 + 1, 1, none⟩ = some (.slice A M.length c) := (blk_cell FW.out 1).trans rfl
  clear c60 c61 z60 z61 c40 c41 c50 c51 c52
  go_wp2
  refine bodyPost_ret (v := .tuple #[.agg #[.int .i64 m, .slice A M.length c], .bool true]) ?_ rfl FO.out
  have hres : Try.f16.results = #[ResultVar.cell 6 34, ResultVar.tmp 7] := rfl
  simp only [results, hres]
  go_simp
end Go.Proofs.Ytiocnkoogachkaa.Vp
