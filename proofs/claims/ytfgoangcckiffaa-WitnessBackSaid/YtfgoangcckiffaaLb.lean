/- This text proves the law WitnessBack as a walk: true whatever the witness, the bytes and the number (under way). -/
import Derived.Test.YtfgoangcckiffaaPb
import Derived.Test.YtfgoangcckiffaaLd
import Derived.Deep.DeepCutAuto
namespace Go.Proofs.Ytfgoangcckiffaa.Lb
open Go.RowKit Go.Proofs.YtfgoangcckiffaaW.PrintWords Go.Proofs.YtfgoangcckiffaaW.PrintLast Go.Proofs.YtfgoangcckiffaaW.PrintMore
open Go.Proofs.Ytfgoangcckiffaa.Good Go.Proofs.Ytfgoangcckiffaa.Tk Go.Proofs.Ytfgoangcckiffaa.Dc Go.Proofs.Ytfgoangcckiffaa.Pd Go.Proofs.Ytfgoangcckiffaa.Pr Go.Proofs.Ytfgoangcckiffaa.Awk Go.Proofs.Ytfgoangcckiffaa.Pb Go.Proofs.Ytfgoangcckiffaa.Ld Go.Proofs.Ytfgoangcckiffaa.EncW
open Go.Proofs.Ytfgoangcckiffaa.Enc (digs b4 all encV good_ok idx_all)
open Go.Proofs.Ytfgoangcckiffaa.PWitnessEncodes
set_option linter.unusedVariables false

theorem law_bad (f t b : Int) (A : Option Addr) (c : Nat) (es : List Int) (B : Option Addr) (d : Nat) (l : List Int) (cut : Int) (w : World) (hr : Kd.C (Kd.int .i64) w A es.length es) (hc : es.length ≤ c) (hrb : Kd.C (Kd.int .u8) w B l.length l) (hd : l.length ≤ d)
    (hb : ∀ x ∈ l, 0 ≤ x ∧ x < 256) (hl : l.length < 140737488355328) (hel : es.length < 17592186044416) (hg : ¬ goodV f t es = 0) :
    Calls Try.prog 5 #[.agg #[.int .i64 f, .int .i64 t, .int .u32 b, .slice A es.length c], .slice B l.length d, .int .i64 cut] w fun e w' => e = .returned (.bool true) ∧ Below w.heap.size w w' := by
  have HR := Aside0.mk hr
  have HRB := Aside0.mk hrb
  have HBY := Aside0.mk hb
  have HO : Aside0 (bramblelaw16_own.f f t b es = some (f, t, b, es)) := ⟨by simp [bramblelaw16_own.f, hel]⟩
  have hg1 : (goodV f t es == 0) = false := by simpa using hg
  have HGN := Aside0.mk hg
  generalize hgg : goodV f t es = gv at *
  have HGG := Aside0.mk hgg
  clear hr hrb hb hgg hg
  go_enter Try.func5, Try.ntmps5
  go_upto_region 13 with (first
    | (go_at_call 7; refine (awake_calls _).mono ?_; rintro e w1 ⟨rfl, hb1⟩; have HB1 := Aside0.mk (((Below.refl _ _).alloc (Nat.le_refl _) _).trans (hb1.mono (by simp))); have HK1 : Aside0 (w1.heap[w.heap.size]? = some (.cells #[.int .i64 f, .int .i64 t, .int .u32 b, .slice A es.length c] 25 (0, 0))) := ⟨(hb1.block _ (by simp)).trans (heap_alloc_new w _)⟩; clear hb1; have c1_0 : w1.cell? ⟨w.heap.size, 0, none⟩ = some (.int .i64 f) := (blk_cell HK1.out 0).trans rfl; have c1_1 : w1.cell? ⟨w.heap.size, 1, none⟩ = some (.int .i64 t) := (blk_cell HK1.out 1).trans rfl; have c1_2 : w1.cell? ⟨w.heap.size, 2, none⟩ = some (.int .u32 b) := (blk_cell HK1.out 2).trans rfl; have c1_3 : w1.cell? ⟨w.heap.size, 3, none⟩ = some (.slice A es.length c) := (blk_cell HK1.out 3).trans rfl)
    | (go_at_call 9; go_must (refine (bramblelaw16_own.calls f t b A c es f t b es w1 (Kd.C_below HR.out HB1.out) hc HO.out).mono ?_); rintro e w2 ⟨v2, rfl, hr2, hb2⟩; have HB2 := Aside0.mk (below_step HB1.out hb2); obtain ⟨A2, c2, rfl, hc2, hr2'⟩ := Kd.R_reads hr2; have HR2 := Aside0.mk hr2'; clear hr2 hb2 hr2')
    | (go_at_call 8; go_must (refine (enc_bad f t b A2 c2 es w2 HR2.out (by rw [HGG.out]; exact HGN.out)).mono ?_); rw [HGG.out]; rintro e w3 ⟨rfl, hb3⟩; have HB3 := Aside0.mk (below_step HB2.out hb3); clear hb3))
  cases hdl : decV l with
  | none =>
    have HDL := Aside0.mk hdl
    clear hdl
    go_upto_region 15 with (first
      | ((with_reducible refine gate_dst (N := 83) rfl ?_); refine Kd.R_lit (Kd.int .u8) _ 5 ?hg (N := 83) ?hd (xs := ([] : List Int)) (inner := []) (ok := fun _ => True) (okp := fun _ => True) ?hr ?hp (fun _ hk => hk) trivial (Below.refl _ _) (Nat.le_refl _) (by simp) ?_; (case hd => rfl); (case hg => rfl); (case hr => first | (go_simp; done) | (go_simp; rfl)); (case hp => exact (Reps.none _ _)); intro v4 w4 ho hb hg_ hnew_; clear hg_ hnew_; have HO4 := Aside0.mk (Kd.R_lower ho HB3.out.size); have HB4 := Aside0.mk (below_step HB3.out hb); clear ho hb)
      | ((with_reducible refine gate_builtin (b := .append) (xs := #[.tmp 83, .tmp 84]) rfl ?_); at_builtin; refine Kd.R_append_rows (Kd.int .u8) (w0 := w) w.heap.size rfl (.tmp 83) (.tmp 84) 27 5 (.int .u8 0) 1 rfl Try.underlying27 info5 rfl (by decide) (by omega) v4 [] l _ _ _ (fun _ => True) (fun _ => False) rfl rfl ?aO ?aR (fun _ _ h => h) (fun _ h => h.elim) ?aF ?aB ?aS ?aL ?_; (case aR => exact (Kd.C_below HRB.out HB4.out)); (case aB => exact HB4.out); (case aF => exact (fun _ _ => trivial)); (case aO => exact HO4.out); (case aS => exact HB4.out.size); (case aL => simp; omega); intro v5 w5 ho hb hg hat; obtain ⟨A5, c5, rfl, hc5, hr5⟩ := Kd.R_reads ho; have HR5 := Aside0.mk hr5; have HC5 := Aside0.mk hc5; have HB5 := Aside0.mk hb; clear ho hb hg hat hr5 hc5)
      | (go_at_call 12; go_must (refine (dec_calls A5 c5 l w5 HR5.out HC5.out HBY.out).mono ?_); intro e w6 hq; obtain ⟨hb6, _, he⟩ := hq; obtain rfl := he HDL.out; have HB6 := Aside0.mk (below_step HB5.out hb6); clear he hb6))
    have HB7 := Aside0.mk (below_alloc HB6.out (.cells #[.int .i64 0, .int .i64 0, .int .u32 0, .slice none 0 0] 25))
    have BK7 := Aside0.mk (blk_new w6 (.cells #[.int .i64 0, .int .i64 0, .int .u32 0, .slice none 0 0] 25))
    generalize w6.alloc (.cells #[.int .i64 0, .int .i64 0, .int .u32 0, .slice none 0 0] 25) = w7 at *
    have x0 : w7.cell? ⟨w6.heap.size, 0, none⟩ = some (.int .i64 0) := (blk_cell BK7.out 0).trans rfl
    have x1 : w7.cell? ⟨w6.heap.size, 1, none⟩ = some (.int .i64 0) := (blk_cell BK7.out 1).trans rfl
    have x2 : w7.cell? ⟨w6.heap.size, 2, none⟩ = some (.int .u32 0) := (blk_cell BK7.out 2).trans rfl
    have x3 : w7.cell? ⟨w6.heap.size, 3, none⟩ = some (.slice none 0 0) := (blk_cell BK7.out 3).trans rfl
    have HSAME := Aside0.mk (same_f 0 0 0 [] (by simp))
    go_wp2_with (first
      | (go_at_call 14; go_must (refine (PWitnessDecodes.brambleref16_Same.calls (([] : List Int).length + 5) 0 0 0 none 0 [] 0 0 0 none 0 [] true w7 (Kd.C_nil _ _) (by simp) (Kd.C_nil _ _) (by simp) HSAME.out).mono ?_); rintro e w8 ⟨rfl, hb8⟩; have HB8 := Aside0.mk (below_step HB7.out hb8); clear hb8))
    go_ret
    exact ⟨rfl, HB8.out⟩
  | some y =>
    obtain ⟨f', t', b', es'⟩ := y
    obtain ⟨hle, hgd, q0, q1⟩ := enc_dec HBY.out hdl
    have HDL := Aside0.mk hdl
    have HLE := Aside0.mk hle
    have HGD := Aside0.mk hgd
    clear hdl hle hgd
    go_upto_region 16 with (first
      | ((with_reducible refine gate_dst (N := 83) rfl ?_); refine Kd.R_lit (Kd.int .u8) _ 5 ?hg (N := 83) ?hd (xs := ([] : List Int)) (inner := []) (ok := fun _ => True) (okp := fun _ => True) ?hr ?hp (fun _ hk => hk) trivial (Below.refl _ _) (Nat.le_refl _) (by simp) ?_; (case hd => rfl); (case hg => rfl); (case hr => first | (go_simp; done) | (go_simp; rfl)); (case hp => exact (Reps.none _ _)); intro v4 w4 ho hb hg_ hnew_; clear hg_ hnew_; have HO4 := Aside0.mk (Kd.R_lower ho HB3.out.size); have HB4 := Aside0.mk (below_step HB3.out hb); clear ho hb)
      | ((with_reducible refine gate_builtin (b := .append) (xs := #[.tmp 83, .tmp 84]) rfl ?_); at_builtin; refine Kd.R_append_rows (Kd.int .u8) (w0 := w) w.heap.size rfl (.tmp 83) (.tmp 84) 27 5 (.int .u8 0) 1 rfl Try.underlying27 info5 rfl (by decide) (by omega) v4 [] l _ _ _ (fun _ => True) (fun _ => False) rfl rfl ?aO ?aR (fun _ _ h => h) (fun _ h => h.elim) ?aF ?aB ?aS ?aL ?_; (case aR => exact (Kd.C_below HRB.out HB4.out)); (case aB => exact HB4.out); (case aF => exact (fun _ _ => trivial)); (case aO => exact HO4.out); (case aS => exact HB4.out.size); (case aL => simp; omega); intro v5 w5 ho hb hg hat; obtain ⟨A5, c5, rfl, hc5, hr5⟩ := Kd.R_reads ho; have HR5 := Aside0.mk hr5; have HC5 := Aside0.mk hc5; have HB5 := Aside0.mk hb; clear ho hb hg hat hr5 hc5)
      | (go_at_call 12; go_must (refine (dec_calls A5 c5 l w5 HR5.out HC5.out HBY.out).mono ?_); intro e w6 hq; obtain ⟨hb6, he, _⟩ := hq; obtain ⟨v6, rfl, hr6⟩ := he _ _ _ _ HDL.out; obtain ⟨A6, c6, rfl, hc6, hr6'⟩ := Kd.R_reads hr6; have HR6 := Aside0.mk hr6'; have HB6 := Aside0.mk (below_step HB5.out hb6); clear he hb6 hr6 hr6'))
    have HB7 := Aside0.mk (below_alloc HB6.out (.cells #[.int .i64 f', .int .i64 t', .int .u32 b', .slice A6 es'.length c6] 25))
    have BK7 := Aside0.mk (blk_new w6 (.cells #[.int .i64 f', .int .i64 t', .int .u32 b', .slice A6 es'.length c6] 25))
    have HR7 := Aside0.mk (Kd.C_alloc HR6.out (.cells #[.int .i64 f', .int .i64 t', .int .u32 b', .slice A6 es'.length c6] 25))
    generalize w6.alloc (.cells #[.int .i64 f', .int .i64 t', .int .u32 b', .slice A6 es'.length c6] 25) = w7 at *
    have x0 : w7.cell? ⟨w6.heap.size, 0, none⟩ = some (.int .i64 f') := (blk_cell BK7.out 0).trans rfl
    have x1 : w7.cell? ⟨w6.heap.size, 1, none⟩ = some (.int .i64 t') := (blk_cell BK7.out 1).trans rfl
    have x2 : w7.cell? ⟨w6.heap.size, 2, none⟩ = some (.int .u32 b') := (blk_cell BK7.out 2).trans rfl
    have x3 : w7.cell? ⟨w6.heap.size, 3, none⟩ = some (.slice A6 es'.length c6) := (blk_cell BK7.out 3).trans rfl
    have heq : ((strOfNums l).toList == (strOfNums l).toList) = true := by simp
    go_upto_region 17 with (first
      | (go_at_call 8; go_must (refine (enc_ok f' t' b' A6 c6 es' w7 HR7.out HGD.out ⟨q0, q1⟩).mono ?_); rintro e w8 ⟨v8, rfl, hr8, hb8⟩; rw [← HLE.out] at hr8; have hcv := own_string (src := 27) (dst := 9) Try.underlying27 Try.underlying5 Try.underlying9 (Kd.own_of_R hr8); have HB8 := Aside0.mk (below_step HB7.out hb8); have hcw := Kd.C_string (P := Try.prog) (A := B) (c := d) Try.underlying27 Try.underlying5 Try.underlying9 (Kd.C_below HRB.out HB8.out); clear hb8 hr8))
    go_wp2
    go_ret
    exact ⟨rfl, HB8.out⟩
end Go.Proofs.Ytfgoangcckiffaa.Lb
