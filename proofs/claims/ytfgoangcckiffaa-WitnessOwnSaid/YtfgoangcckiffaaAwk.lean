/- This text proves the fixed example and the law WitnessEncodes as walks: true whatever the witness. -/
import Derived.Test.YtfgoangcckiffaaEncW
namespace Go.Proofs.Ytfgoangcckiffaa.Awk
open Go.RowKit Go.Proofs.YtfgoangcckiffaaW.PrintWords Go.Proofs.YtfgoangcckiffaaW.PrintLast Go.Proofs.YtfgoangcckiffaaW.PrintMore
open Go.Proofs.Ytfgoangcckiffaa.Good Go.Proofs.Ytfgoangcckiffaa.PWitnessEncodes Go.Proofs.Ytfgoangcckiffaa.Enc Go.Proofs.Ytfgoangcckiffaa.EncW
set_option linter.unusedVariables false

theorem awake_enc : encV 5 300 1065353216 [1, 200] = [183, 5, 172, 2, 0, 0, 128, 63, 2, 1, 200, 1] := by
  have d5 : digs 5 = [5] := digs_lo (by omega)
  have d2 : digs 2 = [2] := digs_lo (by omega)
  have d1 : digs 1 = [1] := digs_lo (by omega)
  have d300 : digs 300 = [172, 2] := by rw [digs_hi (by omega)]; simp [d2]
  have d200 : digs 200 = [200, 1] := by rw [digs_hi (by omega)]; simp [d1]
  simp [encV, all, b4, d5, d2, d1, d300, d200]

theorem awake_good : goodV 5 300 [1, 200] = 0 := by simp [goodV, idxBad, badE]

theorem lit2 (w : World) : Kd.C (Kd.int .i64) (w.alloc (.cells #[.int .i64 1, .int .i64 200] 3)) (some ⟨w.heap.size, 0, none⟩) 2 [1, 200] := by
  obtain ⟨A, c, h1, h2, h3⟩ := Kd.R_reads (Kd.R_of_own (ok := fun _ => True) (own_lit w w.heap.size 3 .i64 [1, 200] (by omega) (by simp)) (fun _ _ => trivial))
  injection h1 with h1 h4 h5
  subst h1
  exact h3

theorem awake_calls (w : World) : Calls Try.prog 7 #[] w fun e w' => e = .returned (.bool true) ∧ Below w.heap.size w w' := by
  have hs : ((strOfNums [183, 5, 172, 2, 0, 0, 128, 63, 2, 1, 200, 1]).toList == [183, 5, 172, 2, 0, 0, 128, 63, 2, 1, 200, 1]) = true := by decide +kernel
  go_enter Try.func7, Try.ntmps7
  go_wp2_with (first | (go_at_call 8; go_must (refine (enc_ok 5 300 1065353216 (some ⟨w.heap.size, 0, none⟩) 2 [1, 200] _ (lit2 w) awake_good (by omega)).mono ?_); rintro e w1 ⟨v1, rfl, hr, hb⟩; rw [awake_enc] at hr; have hcv := own_string (src := 27) (dst := 9) Try.underlying27 Try.underlying5 Try.underlying9 (Kd.own_of_R hr); have HB := Aside0.mk hb; clear hr hb))
  go_ret
  exact ⟨rfl, ((Below.refl _ _).alloc (Nat.le_refl _) _).trans (HB.out.mono (by simp))⟩

theorem law_calls (f t b : Int) (A : Option Addr) (c : Nat) (l : List Int) (w : World) (hr : Kd.C (Kd.int .i64) w A l.length l) (hc : l.length ≤ c) (hb : 0 ≤ b ∧ b < 4294967296) (hl : l.length < 17592186044416) :
    Calls Try.prog 3 #[.agg #[.int .i64 f, .int .i64 t, .int .u32 b, .slice A l.length c]] w fun e w' => e = .returned (.bool true) ∧ Below w.heap.size w w' := by
  have HR := Aside0.mk hr
  clear hr
  have HO : bramblelaw16_own.f f t b l = some (f, t, b, l) := by simp [bramblelaw16_own.f, hl]
  by_cases hg : goodV f t l = 0
  · have hE := error_f f t b l (l.length + 2) (by omega) (by omega)
    rw [hg] at hE
    have hF := encode_f f t b l 2000 hg hb (by omega)
    obtain ⟨g, hg0⟩ : ∃ g : Int, g = 0 := ⟨0, rfl⟩
    have HG0 := Aside0.mk hg
    have HE : Aside0 (brambleref16_Error.f (l.length + 2) f t b l = some 0) := ⟨hE⟩
    have HF := Aside0.mk hF
    have HOW := Aside0.mk HO
    clear hg hE HO hF hg0 g
    generalize hx : encV f t b l = x at HF
    have HX := Aside0.mk hx
    clear hx
    go_enter Try.func3, Try.ntmps3
    go_wp2_with (first
      | (go_at_call 7; refine (awake_calls _).mono ?_; rintro e w1 ⟨rfl, hb1⟩; have HB1 := Aside0.mk (((Below.refl _ _).alloc (Nat.le_refl _) _).trans (hb1.mono (by simp))); have HK1 : Aside0 (w1.heap[w.heap.size]? = some (.cells #[.int .i64 f, .int .i64 t, .int .u32 b, .slice A l.length c] 25 (0, 0))) := ⟨(hb1.block _ (by simp)).trans (heap_alloc_new w _)⟩; clear hb1; have c1_0 : w1.cell? ⟨w.heap.size, 0, none⟩ = some (.int .i64 f) := (blk_cell HK1.out 0).trans rfl; have c1_1 : w1.cell? ⟨w.heap.size, 1, none⟩ = some (.int .i64 t) := (blk_cell HK1.out 1).trans rfl; have c1_2 : w1.cell? ⟨w.heap.size, 2, none⟩ = some (.int .u32 b) := (blk_cell HK1.out 2).trans rfl; have c1_3 : w1.cell? ⟨w.heap.size, 3, none⟩ = some (.slice A l.length c) := (blk_cell HK1.out 3).trans rfl)
      | (go_at_call 9; go_must (refine (bramblelaw16_own.calls f t b A c l f t b l w1 (Kd.C_below HR.out HB1.out) hc HOW.out).mono ?_); rintro e w2 ⟨v2, rfl, hr2, hb2⟩; have HB2 := Aside0.mk (below_step HB1.out hb2); have HK2 : Aside0 (w2.heap[w.heap.size]? = some (.cells #[.int .i64 f, .int .i64 t, .int .u32 b, .slice A l.length c] 25 (0, 0))) := ⟨(hb2.block _ (blk_lt HK1.out)).trans HK1.out⟩; obtain ⟨A2, c2, rfl, hc2, hr2'⟩ := Kd.R_reads hr2; have HR2 := Aside0.mk hr2'; clear hr2 hb2 hr2'; have c2_0 : w2.cell? ⟨w.heap.size, 0, none⟩ = some (.int .i64 f) := (blk_cell HK2.out 0).trans rfl; have c2_1 : w2.cell? ⟨w.heap.size, 1, none⟩ = some (.int .i64 t) := (blk_cell HK2.out 1).trans rfl; have c2_2 : w2.cell? ⟨w.heap.size, 2, none⟩ = some (.int .u32 b) := (blk_cell HK2.out 2).trans rfl; have c2_3 : w2.cell? ⟨w.heap.size, 3, none⟩ = some (.slice A l.length c) := (blk_cell HK2.out 3).trans rfl)
      | (go_at_call 8; go_must (refine (enc_ok f t b A2 c2 l w2 HR2.out HG0.out hb).mono ?_); rintro e w3 ⟨v3, rfl, hr3, hb3⟩; have HR3 := Aside0.mk hr3; have HB3 := Aside0.mk (below_step HB2.out hb3); have HK3 : Aside0 (w3.heap[w.heap.size]? = some (.cells #[.int .i64 f, .int .i64 t, .int .u32 b, .slice A l.length c] 25 (0, 0))) := ⟨(hb3.block _ (blk_lt HK2.out)).trans HK2.out⟩; clear hr3 hb3; have c3_0 : w3.cell? ⟨w.heap.size, 0, none⟩ = some (.int .i64 f) := (blk_cell HK3.out 0).trans rfl; have c3_1 : w3.cell? ⟨w.heap.size, 1, none⟩ = some (.int .i64 t) := (blk_cell HK3.out 1).trans rfl; have c3_2 : w3.cell? ⟨w.heap.size, 2, none⟩ = some (.int .u32 b) := (blk_cell HK3.out 2).trans rfl; have c3_3 : w3.cell? ⟨w.heap.size, 3, none⟩ = some (.slice A l.length c) := (blk_cell HK3.out 3).trans rfl)
      | (go_at_call 10; go_must (refine (brambleref16_Error.calls (l.length + 2) f t b A c l 0 w3 (Kd.C_below HR.out HB3.out) hc HE.out).mono ?_); rintro e w4 ⟨rfl, hb4⟩; have HB4 := Aside0.mk (below_step HB3.out hb4); have HBE := Aside0.mk hb4; have HK4 : Aside0 (w4.heap[w.heap.size]? = some (.cells #[.int .i64 f, .int .i64 t, .int .u32 b, .slice A l.length c] 25 (0, 0))) := ⟨(hb4.block _ (blk_lt HK3.out)).trans HK3.out⟩; clear hb4; have c4_0 : w4.cell? ⟨w.heap.size, 0, none⟩ = some (.int .i64 f) := (blk_cell HK4.out 0).trans rfl; have c4_1 : w4.cell? ⟨w.heap.size, 1, none⟩ = some (.int .i64 t) := (blk_cell HK4.out 1).trans rfl; have c4_2 : w4.cell? ⟨w.heap.size, 2, none⟩ = some (.int .u32 b) := (blk_cell HK4.out 2).trans rfl; have c4_3 : w4.cell? ⟨w.heap.size, 3, none⟩ = some (.slice A l.length c) := (blk_cell HK4.out 3).trans rfl))
    have hr4 : Kd.R (Kd.int .u8) 5 w4 w2.heap.size (fun _ => True) v3 x := by
      have := HR3.out
      rw [HX.out] at this
      exact Kd.R_below this HBE.out
    have hcv : (convert 27 9 v3).run Try.prog w4.drew = .ok (.string (strOfNums x)) w4.drew := own_string (src := 27) (dst := 9) Try.underlying27 Try.underlying5 Try.underlying9 (own_drew (Kd.own_of_R hr4))
    have HR4 : Aside0 (Kd.R (Kd.int .u8) 5 w4.drew w2.heap.size (fun _ => True) v3 x) := ⟨Kd.R_drew hr4⟩
    clear hr4
    have heq : ((strOfNums x).toList == (strOfNums x).toList) = true := by simp
    go_region_with
      (first
        | (go_at_call 11; refine (brambleref16_Encode.calls 2000 f t b A c l x w4.drew (Kd.C_below HR.out HB4.out.drew) hc HF.out).mono ?_; rintro e w5 ⟨v5, rfl, hr5, hb5⟩; have hcv5 : (convert 27 9 v3).run Try.prog w5 = .ok (.string (strOfNums x)) w5 := own_string (src := 27) (dst := 9) Try.underlying27 Try.underlying5 Try.underlying9 (Kd.own_of_R (Kd.R_below HR4.out hb5)); have hcw5 : (convert 27 9 v5).run Try.prog w5 = .ok (.string (strOfNums x)) w5 := own_string (src := 27) (dst := 9) Try.underlying27 Try.underlying5 Try.underlying9 (Kd.own_of_R hr5); have HB5 := Aside0.mk (below_step HB4.out.drew hb5); have HK5 : Aside0 (w5.heap[w.heap.size]? = some (.cells #[.int .i64 f, .int .i64 t, .int .u32 b, .slice A l.length c] 25 (0, 0))) := ⟨(hb5.block _ (blk_lt HK4.out)).trans HK4.out⟩; clear hr5 hb5; have c5_0 : w5.cell? ⟨w.heap.size, 0, none⟩ = some (.int .i64 f) := (blk_cell HK5.out 0).trans rfl; have c5_1 : w5.cell? ⟨w.heap.size, 1, none⟩ = some (.int .i64 t) := (blk_cell HK5.out 1).trans rfl; have c5_2 : w5.cell? ⟨w.heap.size, 2, none⟩ = some (.int .u32 b) := (blk_cell HK5.out 2).trans rfl; have c5_3 : w5.cell? ⟨w.heap.size, 3, none⟩ = some (.slice A l.length c) := (blk_cell HK5.out 3).trans rfl))
    all_goals (go_wp2; go_ret; exact ⟨rfl, HB5.out⟩)
  · have hg' : (goodV f t l != 0) = true := by simpa using hg
    have hE := error_f f t b l (l.length + 2) (by omega) (by omega)
    generalize hgg : goodV f t l = g at *
    have HGG := Aside0.mk hgg
    have HGN := Aside0.mk hg
    have HE := Aside0.mk hE
    have HOW := Aside0.mk HO
    clear hgg hg hE HO
    go_enter Try.func3, Try.ntmps3
    go_wp2_with (first
      | (go_at_call 7; refine (awake_calls _).mono ?_; rintro e w1 ⟨rfl, hb1⟩; have HB1 := Aside0.mk (((Below.refl _ _).alloc (Nat.le_refl _) _).trans (hb1.mono (by simp))); have HK1 : Aside0 (w1.heap[w.heap.size]? = some (.cells #[.int .i64 f, .int .i64 t, .int .u32 b, .slice A l.length c] 25 (0, 0))) := ⟨(hb1.block _ (by simp)).trans (heap_alloc_new w _)⟩; clear hb1; have c1_0 : w1.cell? ⟨w.heap.size, 0, none⟩ = some (.int .i64 f) := (blk_cell HK1.out 0).trans rfl; have c1_1 : w1.cell? ⟨w.heap.size, 1, none⟩ = some (.int .i64 t) := (blk_cell HK1.out 1).trans rfl; have c1_2 : w1.cell? ⟨w.heap.size, 2, none⟩ = some (.int .u32 b) := (blk_cell HK1.out 2).trans rfl; have c1_3 : w1.cell? ⟨w.heap.size, 3, none⟩ = some (.slice A l.length c) := (blk_cell HK1.out 3).trans rfl)
      | (go_at_call 9; go_must (refine (bramblelaw16_own.calls f t b A c l f t b l w1 (Kd.C_below HR.out HB1.out) hc HOW.out).mono ?_); rintro e w2 ⟨v2, rfl, hr2, hb2⟩; have HB2 := Aside0.mk (below_step HB1.out hb2); have HK2 : Aside0 (w2.heap[w.heap.size]? = some (.cells #[.int .i64 f, .int .i64 t, .int .u32 b, .slice A l.length c] 25 (0, 0))) := ⟨(hb2.block _ (blk_lt HK1.out)).trans HK1.out⟩; obtain ⟨A2, c2, rfl, hc2, hr2'⟩ := Kd.R_reads hr2; have HR2 := Aside0.mk hr2'; clear hr2 hb2 hr2'; have c2_0 : w2.cell? ⟨w.heap.size, 0, none⟩ = some (.int .i64 f) := (blk_cell HK2.out 0).trans rfl; have c2_1 : w2.cell? ⟨w.heap.size, 1, none⟩ = some (.int .i64 t) := (blk_cell HK2.out 1).trans rfl; have c2_2 : w2.cell? ⟨w.heap.size, 2, none⟩ = some (.int .u32 b) := (blk_cell HK2.out 2).trans rfl; have c2_3 : w2.cell? ⟨w.heap.size, 3, none⟩ = some (.slice A l.length c) := (blk_cell HK2.out 3).trans rfl)
      | (go_at_call 8; go_must (refine (enc_bad f t b A2 c2 l w2 HR2.out (by rw [HGG.out]; exact HGN.out)).mono ?_); rw [HGG.out]; rintro e w3 ⟨rfl, hb3⟩; have HB3 := Aside0.mk (below_step HB2.out hb3); have HK3 : Aside0 (w3.heap[w.heap.size]? = some (.cells #[.int .i64 f, .int .i64 t, .int .u32 b, .slice A l.length c] 25 (0, 0))) := ⟨(hb3.block _ (blk_lt HK2.out)).trans HK2.out⟩; clear hb3; have c3_0 : w3.cell? ⟨w.heap.size, 0, none⟩ = some (.int .i64 f) := (blk_cell HK3.out 0).trans rfl; have c3_1 : w3.cell? ⟨w.heap.size, 1, none⟩ = some (.int .i64 t) := (blk_cell HK3.out 1).trans rfl; have c3_2 : w3.cell? ⟨w.heap.size, 2, none⟩ = some (.int .u32 b) := (blk_cell HK3.out 2).trans rfl; have c3_3 : w3.cell? ⟨w.heap.size, 3, none⟩ = some (.slice A l.length c) := (blk_cell HK3.out 3).trans rfl)
      | (go_at_call 10; go_must (refine (brambleref16_Error.calls (l.length + 2) f t b A c l g w3 (Kd.C_below HR.out HB3.out) hc HE.out).mono ?_); rintro e w4 ⟨rfl, hb4⟩; have HB4 := Aside0.mk (below_step HB3.out hb4); have HBE := Aside0.mk hb4; have HK4 : Aside0 (w4.heap[w.heap.size]? = some (.cells #[.int .i64 f, .int .i64 t, .int .u32 b, .slice A l.length c] 25 (0, 0))) := ⟨(hb4.block _ (blk_lt HK3.out)).trans HK3.out⟩; clear hb4; have c4_0 : w4.cell? ⟨w.heap.size, 0, none⟩ = some (.int .i64 f) := (blk_cell HK4.out 0).trans rfl; have c4_1 : w4.cell? ⟨w.heap.size, 1, none⟩ = some (.int .i64 t) := (blk_cell HK4.out 1).trans rfl; have c4_2 : w4.cell? ⟨w.heap.size, 2, none⟩ = some (.int .u32 b) := (blk_cell HK4.out 2).trans rfl; have c4_3 : w4.cell? ⟨w.heap.size, 3, none⟩ = some (.slice A l.length c) := (blk_cell HK4.out 3).trans rfl))
    go_ret
    exact ⟨rfl, HB4.out⟩
end Go.Proofs.Ytfgoangcckiffaa.Awk
