/- This text proves the law WitnessDecodes as a walk: true whatever the bytes. -/
import Derived.Test.YtfgoangcckiffaaPr
import Derived.Test.YtfgoangcckiffaaAwk
import Derived.Test.YtfgoangcckiffaaPWitnessDecodesx4
namespace Go.Proofs.Ytfgoangcckiffaa.Ld
open Go.RowKit Go.Proofs.YtfgoangcckiffaaW.PrintWords Go.Proofs.YtfgoangcckiffaaW.PrintLast Go.Proofs.YtfgoangcckiffaaW.PrintMore
open Go.Proofs.Ytfgoangcckiffaa.Good Go.Proofs.Ytfgoangcckiffaa.Tk Go.Proofs.Ytfgoangcckiffaa.Dc Go.Proofs.Ytfgoangcckiffaa.Pd Go.Proofs.Ytfgoangcckiffaa.Pr Go.Proofs.Ytfgoangcckiffaa.Awk
open Go.Proofs.Ytfgoangcckiffaa.PWitnessDecodes
set_option linter.unusedVariables false

theorem same_l (f t b : Int) (es : List Int) (hl : es.length < 4611686018427387904) : ∀ (d i : Nat) (K : Nat), i + d = es.length → d < K → brambleref16_Same.l0 K es.length i f t b es f t b es = some true := by
  intro d
  induction d with
  | zero =>
    intro i K hi hK
    obtain ⟨K, rfl⟩ : ∃ m, K = m + 1 := ⟨K - 1, by omega⟩
    rw [brambleref16_Same.l0, if_neg (by omega)]
  | succ d ih =>
    intro i K hi hK
    obtain ⟨K, rfl⟩ : ∃ m, K = m + 1 := ⟨K - 1, by omega⟩
    rw [brambleref16_Same.l0, if_pos (by omega), if_pos (by omega), if_pos (by omega), if_pos (by omega), if_pos rfl, w64 (by omega) (by omega), show (i : Int) + 1 = ((i + 1 : Nat) : Int) by omega]
    exact ih (i + 1) K (by omega) (by omega)
theorem same_f (f t b : Int) (es : List Int) (hl : es.length < 4611686018427387904) : brambleref16_Same.f (es.length + 5) f t b es f t b es = some true := by
  rw [brambleref16_Same.f, if_pos rfl, if_pos rfl, if_pos rfl, brambleref16_Same.j0, if_neg (by simp)]
  have := same_l f t b es hl es.length 0 (es.length + 4) (by omega) (by omega)
  simpa using this

theorem good_ok' {l : List Int} {f t b : Int} {es : List Int} (hb : ∀ x ∈ l, 0 ≤ x ∧ x < 256) (h : decV l = some (f, t, b, es)) : es.length < 4611686018427387904 := by
  have := (Enc.good_ok (enc_dec hb h).2.1).1
  omega

theorem law_calls (A : Option Addr) (c : Nat) (l : List Int) (w : World) (hr : Kd.C (Kd.int .u8) w A l.length l) (hc : l.length ≤ c) (hb : ∀ x ∈ l, 0 ≤ x ∧ x < 256) (hl : l.length < 140737488355328) :
    Calls Try.prog 4 #[.slice A l.length c] w fun e w' => e = .returned (.bool true) ∧ Below w.heap.size w w' := by
  obtain ⟨f, t, b, es, code, hel, hdec, href⟩ : ∃ (f t b : Int) (es : List Int) (code : Int), es.length < 4611686018427387904 ∧ (∀ (W : World) e w', DecQ W l e w' → Below W.heap.size W w' ∧ ∃ v, e = .returned (.tuple #[.agg #[.int .i64 f, .int .i64 t, .int .u32 b, v], .int .i64 code]) ∧ Kd.R (Kd.int .i64) 3 w' W.heap.size (fun _ => True) v es) ∧ Rdc.brambleref16_Decode.f (4995 + 5) l = some (f, t, b, es, code) := by
    have hf := decode_f l hb (by omega) 4995 (by omega)
    cases hd : decV l with
    | none =>
      rw [ref_none hb hd] at hf
      refine ⟨0, 0, 0, [], 160, by simp, fun W e w' h => ⟨h.1, _, h.2.2 hd, Kd.R_nil _ _ _ _ _⟩, hf⟩
    | some x =>
      obtain ⟨f, t, b, es⟩ := x
      rw [ref_some hb hd] at hf
      have hg := good_ok' hb hd
      exact ⟨f, t, b, es, 0, hg, fun W e w' h => ⟨h.1, h.2.1 f t b es hd⟩, hf⟩
  have HR := Aside0.mk hr
  have HBY := Aside0.mk hb
  have HDEC := Aside0.mk hdec
  have HREF := Aside0.mk href
  have HSAME := Aside0.mk (same_f f t b es hel)
  clear hr hb hdec href
  generalize 4995 + 5 = K5 at HREF
  go_enter Try.func4, Try.ntmps4
  go_wp2_with (first
    | (go_at_call 7; refine (awake_calls _).mono ?_; rintro e w1 ⟨rfl, hb1⟩; have HB1 := Aside0.mk hb1; clear hb1)
    | ((with_reducible refine gate_dst (N := 10) rfl ?_); refine Kd.R_lit (Kd.int .u8) _ 5 ?hg (N := 10) ?hd (xs := ([] : List Int)) (inner := []) (ok := fun _ => True) (okp := fun _ => True) ?hr ?hp (fun _ hk => hk) trivial (Below.refl _ _) (Nat.le_refl _) (by simp) ?_; (case hd => rfl); (case hg => rfl); (case hr => first | (go_simp; done) | (go_simp; rfl)); (case hp => exact (Reps.none _ _)); intro v2 w2 ho hb hg_ hnew_; clear hg_ hnew_; have HO2 := Aside0.mk (Kd.R_lower ho HB1.out.size); have HB2 := Aside0.mk (below_step HB1.out hb); clear ho hb)
    | ((with_reducible refine gate_builtin (b := .append) (xs := #[.tmp 10, .tmp 11]) rfl ?_); at_builtin; refine Kd.R_append_rows (Kd.int .u8) (w0 := w) w.heap.size rfl (.tmp 10) (.tmp 11) 27 5 (.int .u8 0) 1 rfl Try.underlying27 info5 rfl (by decide) (by omega) v2 [] l _ _ _ (fun _ => True) (fun _ => False) rfl rfl ?aO ?aR (fun _ _ h => h) (fun _ h => h.elim) ?aF ?aB ?aS ?aL ?_; (case aR => exact (Kd.C_below HR.out HB2.out)); (case aB => exact HB2.out); (case aF => exact (fun _ _ => trivial)); (case aO => exact HO2.out); (case aS => exact HB2.out.size); (case aL => simp; omega); intro v3 w3 ho hb hg hat; obtain ⟨A3, c3, rfl, hc3, hr3⟩ := Kd.R_reads ho; have HR3 := Aside0.mk hr3; have HC3 := Aside0.mk hc3; have HB3 := Aside0.mk hb; clear ho hb hg hat hr3 hc3)
    | (go_at_call 12; go_must (refine (dec_calls A3 c3 l w3 HR3.out HC3.out HBY.out).mono ?_); intro e w4 hq; obtain ⟨hb4, v4, rfl, hr4⟩ := HDEC.out _ _ _ hq; obtain ⟨A4, c4, rfl, hc4, hr4'⟩ := Kd.R_reads hr4; have HR4 := Aside0.mk hr4'; have HC4 := Aside0.mk hc4; have HB4 := Aside0.mk (below_step HB3.out hb4); clear hq hb4 hr4 hr4' hc4))
  have HB5 := Aside0.mk (below_alloc HB4.out (.cells #[.int .i64 f, .int .i64 t, .int .u32 b, .slice A4 es.length c4] 25))
  have BK5 := Aside0.mk (blk_new w4 (.cells #[.int .i64 f, .int .i64 t, .int .u32 b, .slice A4 es.length c4] 25))
  have HC5 := Aside0.mk (Kd.C_alloc HR4.out (.cells #[.int .i64 f, .int .i64 t, .int .u32 b, .slice A4 es.length c4] 25))
  generalize w4.alloc (.cells #[.int .i64 f, .int .i64 t, .int .u32 b, .slice A4 es.length c4] 25) = w5 at *
  refine (Rdc.brambleref16_Decode.calls K5 A c l f t b es code w5 (Kd.C_below HR.out HB5.out) hc HREF.out).mono ?_
  rintro e w6 ⟨v6, rfl, hr6, hb6⟩
  obtain ⟨A6, c6, rfl, hc6, hr6'⟩ := Kd.R_reads hr6
  have HB6 := Aside0.mk (below_step HB5.out hb6)
  have HB7 := Aside0.mk (below_alloc HB6.out (.cells #[.int .i64 f, .int .i64 t, .int .u32 b, .slice A6 es.length c6] 25))
  have BK7 := Aside0.mk (blk_alloc (blk_below BK5.out hb6) (.cells #[.int .i64 f, .int .i64 t, .int .u32 b, .slice A6 es.length c6] 25))
  have BL7 := Aside0.mk (blk_new w6 (.cells #[.int .i64 f, .int .i64 t, .int .u32 b, .slice A6 es.length c6] 25))
  have HC7 := Aside0.mk (Kd.C_alloc (Kd.C_below HC5.out hb6) (.cells #[.int .i64 f, .int .i64 t, .int .u32 b, .slice A6 es.length c6] 25))
  have HD7 := Aside0.mk (Kd.C_alloc hr6' (.cells #[.int .i64 f, .int .i64 t, .int .u32 b, .slice A6 es.length c6] 25))
  clear hr6 hb6 hr6'
  go_upto_region 5 with (fail)
  generalize w6.alloc (.cells #[.int .i64 f, .int .i64 t, .int .u32 b, .slice A6 es.length c6] 25) = w7 at *
  have x0 : w7.cell? ⟨w4.heap.size, 0, none⟩ = some (.int .i64 f) := (blk_cell BK7.out 0).trans rfl
  have x1 : w7.cell? ⟨w4.heap.size, 1, none⟩ = some (.int .i64 t) := (blk_cell BK7.out 1).trans rfl
  have x2 : w7.cell? ⟨w4.heap.size, 2, none⟩ = some (.int .u32 b) := (blk_cell BK7.out 2).trans rfl
  have x3 : w7.cell? ⟨w4.heap.size, 3, none⟩ = some (.slice A4 es.length c4) := (blk_cell BK7.out 3).trans rfl
  have y0 : w7.cell? ⟨w6.heap.size, 0, none⟩ = some (.int .i64 f) := (blk_cell BL7.out 0).trans rfl
  have y1 : w7.cell? ⟨w6.heap.size, 1, none⟩ = some (.int .i64 t) := (blk_cell BL7.out 1).trans rfl
  have y2 : w7.cell? ⟨w6.heap.size, 2, none⟩ = some (.int .u32 b) := (blk_cell BL7.out 2).trans rfl
  have y3 : w7.cell? ⟨w6.heap.size, 3, none⟩ = some (.slice A6 es.length c6) := (blk_cell BL7.out 3).trans rfl
  go_wp2_with (first
    | (go_at_call 14; go_must (refine (brambleref16_Same.calls (es.length + 5) f t b A4 c4 es f t b A6 c6 es true w7 HC7.out HC4.out HD7.out hc6 HSAME.out).mono ?_); rintro e w8 ⟨rfl, hb8⟩; have HB8 := Aside0.mk (below_step HB7.out hb8); clear hb8))
  go_ret
  exact ⟨rfl, HB8.out⟩

theorem wf_bytes {l : List Int} (hw : ∀ n ∈ l, (Lit.int .u8 n).wf = true) : ∀ x ∈ l, 0 ≤ x ∧ x < 256 := by
  intro x hx
  have h := hw x hx
  simp only [Lit.wf, Bool.and_eq_true, decide_eq_true_eq] at h
  have h0 : IntKind.u8.min = 0 := rfl
  have h1 : IntKind.u8.max = 255 := rfl
  omega
theorem law_row (A : Option Addr) (c : Nat) (l : List Int) (w : World) (hr : Kd.C (Kd.int .u8) w A l.length l) (hc : l.length ≤ c) (hw : ∀ n ∈ l, (Lit.int .u8 n).wf = true) (y : l.length * 1 ≤ 140737488351232) :
    Calls Try.prog 4 #[.slice A l.length c] w fun e w' => e = .returned (.bool true) ∧ Below w.heap.size w w' := law_calls A c l w hr hc (wf_bytes hw) (by omega)
end Go.Proofs.Ytfgoangcckiffaa.Ld
