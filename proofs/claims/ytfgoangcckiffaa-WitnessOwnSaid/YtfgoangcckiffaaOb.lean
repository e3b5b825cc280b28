/- This text proves the law WitnessOwn as a walk where the witness that is handed in is none. -/
import Derived.Test.YtfgoangcckiffaaPb
import Derived.Test.YtfgoangcckiffaaLd
import Derived.Deep.DeepCutAuto
import Derived.Deep.QuietTactic
import Derived.BigQuiet
import Derived.Test.YtfgoangcckiffaaWKept
namespace Go.Proofs.Ytfgoangcckiffaa.Ob
open Go.RowKit Go.Proofs.YtfgoangcckiffaaW.PrintWords Go.Proofs.YtfgoangcckiffaaW.PrintLast Go.Proofs.YtfgoangcckiffaaW.PrintMore
open Go.Proofs.Ytfgoangcckiffaa.Good Go.Proofs.Ytfgoangcckiffaa.Tk Go.Proofs.Ytfgoangcckiffaa.Dc Go.Proofs.Ytfgoangcckiffaa.Pd Go.Proofs.Ytfgoangcckiffaa.Pr Go.Proofs.Ytfgoangcckiffaa.Awk Go.Proofs.Ytfgoangcckiffaa.Pb Go.Proofs.Ytfgoangcckiffaa.Ld Go.Proofs.Ytfgoangcckiffaa.EncW
open Go.Proofs.Ytfgoangcckiffaa.Enc (digs b4 all encV good_ok idx_all)
open Go.Proofs.Ytfgoangcckiffaa.PWitnessEncodes
set_option linter.unusedVariables false

theorem full_facts {w : World} {base gf cf : Nat} {ok : Nat → Prop} {es : List Int} (h : Kd.R (Kd.int .i64) 3 w base ok (.slice (some ⟨gf, 0, none⟩) (es ++ [7]).length cf) (es ++ [7])) :
    w.cell? ⟨gf, es.length, none⟩ = some (.int .i64 7) ∧ Kd.C (Kd.int .i64) w (some ⟨gf, 0, none⟩) es.length es := by
  have h1 := (Kd.R_cell (0 : Int) h es.length (by omega) (by simp; omega)).1
  have h2 := Kd.C_take (Kd.R_reads' h).2.2 (m := es.length) (by simp)
  have hT : List.take es.length (es ++ [(7 : Int)]) = es := by simp
  rw [hT] at h2
  have hrd : rdOf (0 : Int) (es ++ [7]) (es.length : Int) = 7 := by simp [rdOf]
  rw [hrd] at h1
  exact ⟨h1, h2⟩

set_option maxHeartbeats 1000000 in
set_option maxRecDepth 100000 in
theorem own_bad (f t b : Int) (A : Option Addr) (c : Nat) (es : List Int) (w : World) (hr : Kd.C (Kd.int .i64) w A es.length es) (hc : es.length ≤ c)
    (hel : es.length < 17592186044416) (hg : ¬ goodV f t es = 0) :
    Calls Try.prog 6 #[.agg #[.int .i64 f, .int .i64 t, .int .u32 b, .slice A es.length c]] w fun e w' => e = .returned (.bool true) ∧ Below w.heap.size w w' := by
  have HR := Aside0.mk hr
  have hg1 : (goodV f t es == 0) = false := by simpa using hg
  have HGN := Aside0.mk hg
  generalize hgg : goodV f t es = gv at *
  have HGG := Aside0.mk hgg
  have HSAME := Aside0.mk (same_f f t b es (by omega))
  clear hr hgg hg
  go_enter Try.func6, Try.ntmps6
  go_upto_region 3 with (first
    | (go_at_call 7; refine (awake_calls _).mono ?_; rintro e w1 ⟨rfl, hb1⟩; have HB1 := Aside0.mk (((Below.refl _ _).alloc (Nat.le_refl _) _).trans (hb1.mono (by simp))); have HK1 : Aside0 (w1.heap[w.heap.size]? = some (.cells #[.int .i64 f, .int .i64 t, .int .u32 b, .slice A es.length c] 25 (0, 0))) := ⟨(hb1.block _ (by simp)).trans (heap_alloc_new w _)⟩; clear hb1; have c1_0 : w1.cell? ⟨w.heap.size, 0, none⟩ = some (.int .i64 f) := (blk_cell HK1.out 0).trans rfl; have c1_1 : w1.cell? ⟨w.heap.size, 1, none⟩ = some (.int .i64 t) := (blk_cell HK1.out 1).trans rfl; have c1_2 : w1.cell? ⟨w.heap.size, 2, none⟩ = some (.int .u32 b) := (blk_cell HK1.out 2).trans rfl; have c1_3 : w1.cell? ⟨w.heap.size, 3, none⟩ = some (.slice A es.length c) := (blk_cell HK1.out 3).trans rfl))
  go_upto_region 4 with (first
      | ((with_reducible refine gate_dst (N := 21) rfl ?_); refine Kd.R_lit (Kd.int .i64) _ 3 ?hg (N := 21) ?hd (xs := ([] : List Int)) (inner := []) (ok := fun _ => True) (okp := fun _ => True) ?hr ?hp (fun _ hk => hk) trivial (Below.refl _ _) (Nat.le_refl _) (by simp) ?_; (case hd => rfl); (case hg => rfl); (case hr => first | (go_simp; done) | (go_simp; rfl)); (case hp => exact (Reps.none _ _)); intro v2 w2 ho hb hg_ hnew_; clear hg_ hnew_; have HO2 := Aside0.mk (Kd.R_lower ho HB1.out.size); have HB2 := Aside0.mk (below_step HB1.out hb); have HK2 := Aside0.mk (blk_below HK1.out hb); have c2_3 : w2.cell? ⟨w.heap.size, 3, none⟩ = some (.slice A es.length c) := (blk_cell HK2.out 3).trans rfl; clear ho hb)
      | ((with_reducible refine gate_builtin (b := .append) (xs := #[.tmp 21, .tmp 23]) rfl ?_); at_builtin; refine Kd.R_append_rows (Kd.int .i64) (w0 := w) w.heap.size rfl (.tmp 21) (.tmp 23) 23 3 (.int .i64 0) 8 rfl Try.underlying23 info3 rfl (by decide) (by omega) v2 [] es _ _ _ (fun _ => True) (fun _ => False) rfl rfl ?aO ?aR (fun _ _ h => h) (fun _ h => h.elim) ?aF ?aB ?aS ?aL ?_; (case aR => exact (Kd.C_below HR.out HB2.out)); (case aB => exact HB2.out); (case aF => exact (fun _ _ => trivial)); (case aO => exact HO2.out); (case aS => exact HB2.out.size); (case aL => simp; omega); intro v3 w3 ho hb hg hat; have HO3 := Aside0.mk ho; have HB3 := Aside0.mk hb; have HK3 := Aside0.mk (blk_grown HK2.out hg (Kd.R_ne HO2.out HK2.out (by decide))); clear ho hb hg hat)
      | ((with_reducible refine gate_builtin (b := .append) (xs := #[.tmp 24, .tmp 25]) rfl ?_); at_builtin; refine Kd.R_append (Kd.int .i64) (w0 := w) w.heap.size rfl (.tmp 24) (.tmp 25) 23 3 (.int .i64 0) 8 rfl Try.underlying23 info3 rfl (by decide) (by omega) v3 es 7 [.int .i64 7] (fun _ => True) (fun _ => False) rfl rfl ?aP (fun _ hk => hk.elim) ?aF HO3.out HB3.out ?aS ?aL ?_; (case aP => exact rfl); (case aF => exact (fun _ _ => trivial)); (case aS => exact HB3.out.size); (case aL => omega); intro v4 w4 ho hb hg hat; have HO4 := Aside0.mk ho; have HB4 := Aside0.mk hb; have HK4 := Aside0.mk (blk_grown HK3.out hg (Kd.R_ne HO3.out HK3.out (by decide))); clear ho hb hg hat))
  obtain ⟨gf, cf, rfl, hgf, hgf2, -⟩ := Kd.R_form HO4.out (by simp)
  have hcf : es.length + 1 ≤ cf := by have h := (Kd.R_reads' HO4.out).2.1; simpa using h
  have hlen7 : (es ++ [(7 : Int)]).length = es.length + 1 := by simp
  have x0 : w4.cell? ⟨w.heap.size, 0, none⟩ = some (.int .i64 f) := (blk_cell HK4.out 0).trans rfl
  have x1 : w4.cell? ⟨w.heap.size, 1, none⟩ = some (.int .i64 t) := (blk_cell HK4.out 1).trans rfl
  have x2 : w4.cell? ⟨w.heap.size, 2, none⟩ = some (.int .u32 b) := (blk_cell HK4.out 2).trans rfl
  have x3 : w4.cell? ⟨w.heap.size, 3, none⟩ = some (.slice A es.length c) := (blk_cell HK4.out 3).trans rfl
  go_upto_region 5 with (fail)
  have HB5 := Aside0.mk (below_alloc HB4.out (.cells #[.int .i64 f, .int .i64 t, .int .u32 b, .slice A es.length c] 25))
  have HG5 := Aside0.mk (blk_new w4 (.cells #[.int .i64 f, .int .i64 t, .int .u32 b, .slice A es.length c] 25))
  have HK5 := Aside0.mk (blk_alloc HK4.out (.cells #[.int .i64 f, .int .i64 t, .int .u32 b, .slice A es.length c] 25))
  have HO5 := Aside0.mk (Kd.R_alloc HO4.out (.cells #[.int .i64 f, .int .i64 t, .int .u32 b, .slice A es.length c] 25))
  have GE4 : Aside0 (w.heap.size ≤ w4.heap.size) := ⟨HB4.out.size⟩
  have NE4 : Aside0 (w.heap.size ≠ w4.heap.size) := ⟨by have := blk_lt HK4.out; omega⟩
  generalize w4.alloc (.cells #[.int .i64 f, .int .i64 t, .int .u32 b, .slice A es.length c] 25) = w5 at *
  generalize w4.heap.size = g4 at *
  clear x0 x1 x2 x3 HB4 HK4 HO4 hgf hgf2
  have x3 : w5.cell? ⟨w.heap.size, 3, none⟩ = some (.slice A es.length c) := (blk_cell HK5.out 3).trans rfl
  have y3 : w5.cell? ⟨g4, 3, none⟩ = some (.slice A es.length c) := (blk_cell HG5.out 3).trans rfl
  have z3 := blk_frozen HG5.out 3
  go_upto_region 6 with (fail)
  have HB6 := Aside0.mk (below_set (j := 3) (v := .slice (some ⟨gf, 0, none⟩) es.length cf) HB5.out GE4.out)
  have HG6 := Aside0.mk (blk_put HG5.out 3 (.slice (some ⟨gf, 0, none⟩) es.length cf) rfl)
  have HK6 := Aside0.mk (blk_far HK5.out (p := ⟨g4, 3, none⟩) NE4.out (.slice (some ⟨gf, 0, none⟩) es.length cf))
  have HO6 := Aside0.mk (Kd.R_set HO5.out HG5.out (by decide) 3 (.slice (some ⟨gf, 0, none⟩) es.length cf))
  generalize w5.setCell ⟨g4, 3, none⟩ (.slice (some ⟨gf, 0, none⟩) es.length cf) = w6 at *
  clear x3 y3 z3 HB5 HG5 HK5 HO5 GE4
  obtain ⟨hcell, HCF⟩ := full_facts HO6.out
  have HCE := Aside0.mk hcell
  clear hcell
  have y0 : w6.cell? ⟨g4, 0, none⟩ = some (.int .i64 f) := (blk_cell HG6.out 0).trans rfl
  have y1 : w6.cell? ⟨g4, 1, none⟩ = some (.int .i64 t) := (blk_cell HG6.out 1).trans rfl
  have y2 : w6.cell? ⟨g4, 2, none⟩ = some (.int .u32 b) := (blk_cell HG6.out 2).trans rfl
  have y3 : w6.cell? ⟨g4, 3, none⟩ = some (.slice (some ⟨gf, 0, none⟩) es.length cf) := (blk_cell HG6.out 3).trans rfl
  have hcf2 : es.length ≤ cf := by omega
  go_upto_region 7 with (first
    | (go_at_call 8; go_must (refine (enc_bad f t b (some ⟨gf, 0, none⟩) cf es w6 HCF (by rw [HGG.out]; exact HGN.out)).mono ?_); rw [HGG.out]; rintro e w7 ⟨rfl, hb7⟩; have HB7 := Aside0.mk hb7; clear hb7))
  have HK7 := Aside0.mk (blk_below HK6.out HB7.out)
  have HG7 := Aside0.mk (blk_below HG6.out HB7.out)
  have HCF7 := Aside0.mk (Kd.C_below HCF HB7.out)
  clear y0 y1 y2 y3
  have y0 : w7.cell? ⟨g4, 0, none⟩ = some (.int .i64 f) := (blk_cell HG7.out 0).trans rfl
  have y1 : w7.cell? ⟨g4, 1, none⟩ = some (.int .i64 t) := (blk_cell HG7.out 1).trans rfl
  have y2 : w7.cell? ⟨g4, 2, none⟩ = some (.int .u32 b) := (blk_cell HG7.out 2).trans rfl
  have y3 : w7.cell? ⟨g4, 3, none⟩ = some (.slice (some ⟨gf, 0, none⟩) es.length cf) := (blk_cell HG7.out 3).trans rfl
  go_upto_region 8 with (first
    | (go_at_call 8; go_must (refine (enc_bad f t b (some ⟨gf, 0, none⟩) cf es w7 HCF7.out (by rw [HGG.out]; exact HGN.out)).mono ?_); rw [HGG.out]; rintro e w8 ⟨rfl, hb8⟩; have HB8 := Aside0.mk hb8; clear hb8))
  have HK8 := Aside0.mk (blk_below HK7.out HB8.out)
  have HG8 := Aside0.mk (blk_below HG7.out HB8.out)
  have HCF8 := Aside0.mk (Kd.C_below HCF7.out HB8.out)
  have HB68 := Aside0.mk (below_step HB7.out HB8.out)
  have HBW8 := Aside0.mk (below_step HB6.out HB68.out)
  clear y0 y1 y2 y3
  have y0 : w8.cell? ⟨g4, 0, none⟩ = some (.int .i64 f) := (blk_cell HG8.out 0).trans rfl
  have y1 : w8.cell? ⟨g4, 1, none⟩ = some (.int .i64 t) := (blk_cell HG8.out 1).trans rfl
  have y2 : w8.cell? ⟨g4, 2, none⟩ = some (.int .u32 b) := (blk_cell HG8.out 2).trans rfl
  have y3 : w8.cell? ⟨g4, 3, none⟩ = some (.slice (some ⟨gf, 0, none⟩) es.length cf) := (blk_cell HG8.out 3).trans rfl
  have x0 : w8.cell? ⟨w.heap.size, 0, none⟩ = some (.int .i64 f) := (blk_cell HK8.out 0).trans rfl
  have x1 : w8.cell? ⟨w.heap.size, 1, none⟩ = some (.int .i64 t) := (blk_cell HK8.out 1).trans rfl
  have x2 : w8.cell? ⟨w.heap.size, 2, none⟩ = some (.int .u32 b) := (blk_cell HK8.out 2).trans rfl
  have x3 : w8.cell? ⟨w.heap.size, 3, none⟩ = some (.slice A es.length c) := (blk_cell HK8.out 3).trans rfl
  go_wp2_with (first
    | (go_at_call 14; go_must (refine (PWitnessDecodes.brambleref16_Same.calls (es.length + 5) f t b (some ⟨gf, 0, none⟩) cf es f t b A c es true w8 HCF8.out hcf2 (Kd.C_below HR.out HBW8.out) hc HSAME.out).mono ?_); rintro e w9 ⟨rfl, hb9⟩; have HB9 := Aside0.mk hb9; clear hb9; have z3 : w9.cell? ⟨w.heap.size, 3, none⟩ = some (.slice A es.length c) := pw_cell_below HB9.out x3; have zf : w9.cell? ⟨gf, es.length, none⟩ = some (.int .i64 7) := pw_cell_below HB9.out (pw_cell_below HB68.out HCE.out)))
  go_ret
  exact ⟨rfl, below_step HBW8.out HB9.out⟩
end Go.Proofs.Ytfgoangcckiffaa.Ob
