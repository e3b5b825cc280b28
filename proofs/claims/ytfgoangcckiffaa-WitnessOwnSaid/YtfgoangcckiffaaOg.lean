/- This text proves the law WitnessOwn as a walk where a witness is handed in. -/
import Derived.Test.YtfgoangcckiffaaPb
import Derived.Test.YtfgoangcckiffaaLd
import Derived.Deep.DeepCutAuto
import Derived.Deep.QuietTactic
import Derived.BigQuiet
import Derived.Test.YtfgoangcckiffaaWKept
namespace Go.Proofs.Ytfgoangcckiffaa.Og
open Go.RowKit Go.Proofs.YtfgoangcckiffaaW.PrintWords Go.Proofs.YtfgoangcckiffaaW.PrintLast Go.Proofs.YtfgoangcckiffaaW.PrintMore
open Go.Proofs.Ytfgoangcckiffaa.Good Go.Proofs.Ytfgoangcckiffaa.Tk Go.Proofs.Ytfgoangcckiffaa.Dc Go.Proofs.Ytfgoangcckiffaa.Pd Go.Proofs.Ytfgoangcckiffaa.Pr Go.Proofs.Ytfgoangcckiffaa.Awk Go.Proofs.Ytfgoangcckiffaa.Pb Go.Proofs.Ytfgoangcckiffaa.Ld Go.Proofs.Ytfgoangcckiffaa.EncW
open Go.Proofs.Ytfgoangcckiffaa.Enc (digs b4 all encV good_ok idx_all)
open Go.Proofs.Ytfgoangcckiffaa.PWitnessEncodes
set_option linter.unusedVariables false

theorem enc_len {f t b : Int} {es : List Int} (hg : goodV f t es = 0) : (encV f t b es).length < 100000 := by
  obtain ⟨h1, h2, h3, h4, h5, h6⟩ := good_ok hg
  have h7 := Enc.all_len es (idx_all _ 0 (by omega) h6)
  have h8 := Enc.pre2_len f t b es h3 h5 h1
  have h9 : encV f t b es = Enc.pre2 f t b es ++ all es := rfl
  rw [h9, List.length_append]
  omega

theorem room_cell {w : World} {base gr cr : Nat} {ok : Nat → Prop} {x : List Int} (h : Kd.R (Kd.int .u8) 5 w base ok (.slice (some ⟨gr, 0, none⟩) (x ++ [8]).length cr) (x ++ [8])) :
    w.cell? ⟨gr, x.length, none⟩ = some (.int .u8 8) := by
  have h1 := (Kd.R_cell (0 : Int) h x.length (by omega) (by simp; omega)).1
  have hrd : rdOf (0 : Int) (x ++ [8]) (x.length : Int) = 8 := by simp [rdOf]
  rw [hrd] at h1
  exact h1

theorem full_facts {w : World} {base gf cf : Nat} {ok : Nat → Prop} {es : List Int} (h : Kd.R (Kd.int .i64) 3 w base ok (.slice (some ⟨gf, 0, none⟩) (es ++ [7]).length cf) (es ++ [7])) :
    w.cell? ⟨gf, es.length, none⟩ = some (.int .i64 7) ∧ Kd.C (Kd.int .i64) w (some ⟨gf, 0, none⟩) es.length es := by
  have h1 := (Kd.R_cell (0 : Int) h es.length (by omega) (by simp; omega)).1
  have h2 := Kd.C_take (Kd.R_reads' h).2.2 (m := es.length) (by simp)
  have hT : List.take es.length (es ++ [(7 : Int)]) = es := by simp
  rw [hT] at h2
  have hrd : rdOf (0 : Int) (es ++ [7]) (es.length : Int) = 7 := by simp [rdOf]
  rw [hrd] at h1
  exact ⟨h1, h2⟩

/-- the world as it goes on while blocks of S alone are written -/
def Ph (w W0 : World) (S : Nat → Prop) (W : World) : Prop := Below w.heap.size w W ∧ Kept W0 W S
theorem ph_drew {w W0 W : World} {S : Nat → Prop} (h : Ph w W0 S W) : Ph w W0 S W.drew := ⟨below_drew h.1, h.2.drew⟩
theorem ph_alloc {w W0 W : World} {S : Nat → Prop} (h : Ph w W0 S W) (o : Obj) : Ph w W0 S (W.alloc o) := ⟨below_alloc h.1 o, h.2.alloc o⟩
theorem ph_put {w W0 W : World} {S : Nat → Prop} {k : IntKind} {e g n cap : Nat} {xs : List Int} (hS : ∀ k, S k → w.heap.size ≤ k) (h : Ph w W0 S W) (hr : Kd.R (Kd.int k) e W w.heap.size S (.slice (some ⟨g, 0, none⟩) n cap) xs) (i : Nat) (x : Int) :
    Ph w W0 S (W.setCell ⟨g, i, none⟩ (.int k x)) ∧ Kd.R (Kd.int k) e (W.setCell ⟨g, i, none⟩ (.int k x)) w.heap.size S (.slice (some ⟨g, 0, none⟩) n cap) (xs.set i x) := by
  have hg : S g := hr.1 g rfl
  have h2 := Kd.R_putn hr (i : Int) x
  exact ⟨⟨below_set h.1 (hS g hg), h.2.setCell (.inl hg) _⟩, h2⟩
theorem ph_grown {w W0 W W1 : World} {S : Nat → Prop} {k : IntKind} {e : Nat} {v : Value} {xs : List Int} (h : Ph w W0 S W) (hr : Kd.R (Kd.int k) e W w.heap.size S v xs) (hg : W.grownBy W1 v.ownBlock) (hb : Below w.heap.size w W1) : Ph w W0 S W1 :=
  ⟨hb, Kept.of_grown hg h.2 (fun k hk => .inl (hr.1 k hk))⟩

set_option maxHeartbeats 1000000 in
set_option maxRecDepth 100000 in
theorem own_good (f t b : Int) (A : Option Addr) (c : Nat) (es : List Int) (w : World) (hr : Kd.C (Kd.int .i64) w A es.length es) (hc : es.length ≤ c)
    (hel : es.length < 17592186044416) (hg : goodV f t es = 0) (q0 : 0 ≤ b) (q1 : b < 4294967296) :
    Calls Try.prog 6 #[.agg #[.int .i64 f, .int .i64 t, .int .u32 b, .slice A es.length c]] w fun e w' => e = .returned (.bool true) ∧ Below w.heap.size w w' := by
  have HR := Aside0.mk hr
  have HG := Aside0.mk hg
  have HSAME := Aside0.mk (same_f f t b es (by omega))
  clear hr hg
  go_enter Try.func6, Try.ntmps6
  go_upto_region 3 with (first
    | (go_at_call 7; refine (awake_calls _).mono ?_; rintro e w1 ⟨rfl, hb1⟩; have HB1 := Aside0.mk (((Below.refl _ _).alloc (Nat.le_refl _) _).trans (hb1.mono (by simp))); have HK1 : Aside0 (w1.heap[w.heap.size]? = some (.cells #[.int .i64 f, .int .i64 t, .int .u32 b, .slice A es.length c] 25 (0, 0))) := ⟨(hb1.block _ (by simp)).trans (heap_alloc_new w _)⟩; clear hb1; have c1_0 : w1.cell? ⟨w.heap.size, 0, none⟩ = some (.int .i64 f) := (blk_cell HK1.out 0).trans rfl; have c1_1 : w1.cell? ⟨w.heap.size, 1, none⟩ = some (.int .i64 t) := (blk_cell HK1.out 1).trans rfl; have c1_2 : w1.cell? ⟨w.heap.size, 2, none⟩ = some (.int .u32 b) := (blk_cell HK1.out 2).trans rfl; have c1_3 : w1.cell? ⟨w.heap.size, 3, none⟩ = some (.slice A es.length c) := (blk_cell HK1.out 3).trans rfl))
  go_upto_region 4 with (first
      | ((with_reducible refine gate_dst (N := 21) rfl ?_); refine Kd.R_lit (Kd.int .i64) _ 3 ?hg (N := 21) ?hd (xs := ([] : List Int)) (inner := []) (ok := fun _ => True) (okp := fun _ => True) ?hr ?hp (fun _ hk => hk) trivial (Below.refl _ _) (Nat.le_refl _) (by simp) ?_; (case hd => rfl); (case hg => rfl); (case hr => first | (go_simp; done) | (go_simp; rfl)); (case hp => exact (Reps.none _ _)); intro v2 w2 ho hb hg_ hnew_; clear hg_ hnew_; have HO2 := Aside0.mk (Kd.R_lower ho HB1.out.size); have HB2 := Aside0.mk (below_step HB1.out hb); have HK2 := Aside0.mk (blk_below HK1.out hb); have c2_3 : w2.cell? ⟨w.heap.size, 3, none⟩ = some (.slice A es.length c) := (blk_cell HK2.out 3).trans rfl; clear ho hb)
      | ((with_reducible refine gate_builtin (b := .append) (xs := #[.tmp 21, .tmp 23]) rfl ?_); at_builtin; refine Kd.R_append_rows (Kd.int .i64) (w0 := w) w.heap.size rfl (.tmp 21) (.tmp 23) 23 3 (.int .i64 0) 8 rfl Try.underlying23 info3 rfl (by decide) (by omega) v2 [] es _ _ _ (fun _ => True) (fun _ => False) rfl rfl ?aO ?aR (fun _ _ h => h) (fun _ h => h.elim) ?aF ?aB ?aS ?aL ?_; (case aR => exact (Kd.C_below HR.out HB2.out)); (case aB => exact HB2.out); (case aF => exact (fun _ _ => trivial)); (case aO => exact HO2.out); (case aS => exact HB2.out.size); (case aL => simp; omega); intro v3 w3 ho hb hg hat; have HO3 := Aside0.mk ho; have HB3 := Aside0.mk hb; have HK3 := Aside0.mk (blk_grown HK2.out hg (Kd.R_ne HO2.out HK2.out (by decide))); clear ho hb hg hat)
      | ((with_reducible refine gate_builtin (b := .append) (xs := #[.tmp 24, .tmp 25]) rfl ?_); at_builtin; refine Kd.R_append (Kd.int .i64) (w0 := w) w.heap.size rfl (.tmp 24) (.tmp 25) 23 3 (.int .i64 0) 8 rfl Try.underlying23 info3 rfl (by decide) (by omega) v3 es 7 [.int .i64 7] (fun _ => True) (fun _ => False) rfl rfl ?aP (fun _ hk => hk.elim) ?aF HO3.out HB3.out ?aS ?aL ?_; (case aP => exact rfl); (case aF => exact (fun _ _ => trivial)); (case aS => exact HB3.out.size); (case aL => omega); intro v4 w4 ho hb hg hat; have HO4 := Aside0.mk ho; have HB4 := Aside0.mk hb; have HK4 := Aside0.mk (blk_grown HK3.out hg (Kd.R_ne HO3.out HK3.out (by decide))); clear ho hb hg hat))
  obtain ⟨gf, cf, rfl, hgf, hgf2, -⟩ := Kd.R_form HO4.out (by simp)
  have hcf : es.length + 1 ≤ cf := by have h := (Kd.R_reads' HO4.out).2.1; simpa using h
  have hlen7 : (es ++ [(7 : Int)]).length = es.length + 1 := by simp
  have x0 : w4.cell? ⟨w.heap.size, 0, none⟩ = some (.int .i64 f) := (blk_cell HK4.out 0).trans rfl
  have x1 : w4.cell? ⟨w.heap.size, 1, none⟩ = some (.int .i64 t) := (blk_cell HK4.out 1).trans rfl
  have x2 : w4.cell? ⟨w.heap.size, 2, none⟩ = some (.int .u32 b) := (blk_cell HK4.out 2).trans rfl
  have x3 : w4.cell? ⟨w.heap.size, 3, none⟩ = some (.slice A es.length c) := (blk_cell HK4.out 3).trans rfl
  go_upto_region 5 with (fail)
  have HB5 := Aside0.mk (below_alloc HB4.out (.cells #[.int .i64 f, .int .i64 t, .int .u32 b, .slice A es.length c] 25))
  have HG5 := Aside0.mk (blk_new w4 (.cells #[.int .i64 f, .int .i64 t, .int .u32 b, .slice A es.length c] 25))
  have HK5 := Aside0.mk (blk_alloc HK4.out (.cells #[.int .i64 f, .int .i64 t, .int .u32 b, .slice A es.length c] 25))
  have HO5 := Aside0.mk (Kd.R_alloc HO4.out (.cells #[.int .i64 f, .int .i64 t, .int .u32 b, .slice A es.length c] 25))
  have GE4 : Aside0 (w.heap.size ≤ w4.heap.size) := ⟨HB4.out.size⟩
  have NE4 : Aside0 (w.heap.size ≠ w4.heap.size) := ⟨by have := blk_lt HK4.out; omega⟩
  generalize w4.alloc (.cells #[.int .i64 f, .int .i64 t, .int .u32 b, .slice A es.length c] 25) = w5 at *
  generalize w4.heap.size = g4 at *
  clear x0 x1 x2 x3 HB4 HK4 HO4 hgf hgf2
  have x3 : w5.cell? ⟨w.heap.size, 3, none⟩ = some (.slice A es.length c) := (blk_cell HK5.out 3).trans rfl
  have y3 : w5.cell? ⟨g4, 3, none⟩ = some (.slice A es.length c) := (blk_cell HG5.out 3).trans rfl
  have z3 := blk_frozen HG5.out 3
  go_upto_region 6 with (fail)
  have HB6 := Aside0.mk (below_set (j := 3) (v := .slice (some ⟨gf, 0, none⟩) es.length cf) HB5.out GE4.out)
  have HG6 := Aside0.mk (blk_put HG5.out 3 (.slice (some ⟨gf, 0, none⟩) es.length cf) rfl)
  have HK6 := Aside0.mk (blk_far HK5.out (p := ⟨g4, 3, none⟩) NE4.out (.slice (some ⟨gf, 0, none⟩) es.length cf))
  have HO6 := Aside0.mk (Kd.R_set HO5.out HG5.out (by decide) 3 (.slice (some ⟨gf, 0, none⟩) es.length cf))
  generalize w5.setCell ⟨g4, 3, none⟩ (.slice (some ⟨gf, 0, none⟩) es.length cf) = w6 at *
  clear x3 y3 z3 HB5 HG5 HK5 HO5 GE4
  obtain ⟨hcell, HCF⟩ := full_facts HO6.out
  have HCE := Aside0.mk hcell
  clear hcell
  have y0 : w6.cell? ⟨g4, 0, none⟩ = some (.int .i64 f) := (blk_cell HG6.out 0).trans rfl
  have y1 : w6.cell? ⟨g4, 1, none⟩ = some (.int .i64 t) := (blk_cell HG6.out 1).trans rfl
  have y2 : w6.cell? ⟨g4, 2, none⟩ = some (.int .u32 b) := (blk_cell HG6.out 2).trans rfl
  have y3 : w6.cell? ⟨g4, 3, none⟩ = some (.slice (some ⟨gf, 0, none⟩) es.length cf) := (blk_cell HG6.out 3).trans rfl
  have hcf2 : es.length ≤ cf := by omega
  go_upto_region 7 with (first
    | (go_at_call 8; go_must (refine (enc_ok f t b (some ⟨gf, 0, none⟩) cf es w6 HCF HG.out ⟨q0, q1⟩).mono ?_); rintro e w7 ⟨v5, rfl, hr5, hb7⟩; have HR5 := Aside0.mk hr5; have HB7 := Aside0.mk hb7; clear hr5 hb7))
  have HK7 := Aside0.mk (blk_below HK6.out HB7.out)
  have HG7 := Aside0.mk (blk_below HG6.out HB7.out)
  have HCF7 := Aside0.mk (Kd.C_below HCF HB7.out)
  clear y0 y1 y2 y3
  have y0 : w7.cell? ⟨g4, 0, none⟩ = some (.int .i64 f) := (blk_cell HG7.out 0).trans rfl
  have y1 : w7.cell? ⟨g4, 1, none⟩ = some (.int .i64 t) := (blk_cell HG7.out 1).trans rfl
  have y2 : w7.cell? ⟨g4, 2, none⟩ = some (.int .u32 b) := (blk_cell HG7.out 2).trans rfl
  have y3 : w7.cell? ⟨g4, 3, none⟩ = some (.slice (some ⟨gf, 0, none⟩) es.length cf) := (blk_cell HG7.out 3).trans rfl
  go_upto_region 8 with (first
    | (go_at_call 8; go_must (refine (enc_ok f t b (some ⟨gf, 0, none⟩) cf es w7 HCF7.out HG.out ⟨q0, q1⟩).mono ?_); rintro e w8 ⟨v7, rfl, hr7, hb8⟩; have HR7 := Aside0.mk hr7; have HB8 := Aside0.mk hb8; clear hr7 hb8))
  have HK8 := Aside0.mk (blk_below HK7.out HB8.out)
  have HG8 := Aside0.mk (blk_below HG7.out HB8.out)
  have HCF8 := Aside0.mk (Kd.C_below HCF7.out HB8.out)
  have HB68 := Aside0.mk (below_step HB7.out HB8.out)
  have HBW8 := Aside0.mk (below_step HB6.out HB68.out)
  clear y0 y1 y2 y3
  have y0 : w8.cell? ⟨g4, 0, none⟩ = some (.int .i64 f) := (blk_cell HG8.out 0).trans rfl
  have y1 : w8.cell? ⟨g4, 1, none⟩ = some (.int .i64 t) := (blk_cell HG8.out 1).trans rfl
  have y2 : w8.cell? ⟨g4, 2, none⟩ = some (.int .u32 b) := (blk_cell HG8.out 2).trans rfl
  have y3 : w8.cell? ⟨g4, 3, none⟩ = some (.slice (some ⟨gf, 0, none⟩) es.length cf) := (blk_cell HG8.out 3).trans rfl
  have x0 : w8.cell? ⟨w.heap.size, 0, none⟩ = some (.int .i64 f) := (blk_cell HK8.out 0).trans rfl
  have x1 : w8.cell? ⟨w.heap.size, 1, none⟩ = some (.int .i64 t) := (blk_cell HK8.out 1).trans rfl
  have x2 : w8.cell? ⟨w.heap.size, 2, none⟩ = some (.int .u32 b) := (blk_cell HK8.out 2).trans rfl
  have x3 : w8.cell? ⟨w.heap.size, 3, none⟩ = some (.slice A es.length c) := (blk_cell HK8.out 3).trans rfl
  go_upto_region 12 with (first
    | (go_at_call 14; go_must (refine (PWitnessDecodes.brambleref16_Same.calls (es.length + 5) f t b (some ⟨gf, 0, none⟩) cf es f t b A c es true w8 HCF8.out hcf2 (Kd.C_below HR.out HBW8.out) hc HSAME.out).mono ?_); rintro e w9 ⟨rfl, hb9⟩; have HB9 := Aside0.mk hb9; clear hb9; have z3 : w9.cell? ⟨w.heap.size, 3, none⟩ = some (.slice A es.length c) := pw_cell_below HB9.out x3; have zf : w9.cell? ⟨gf, es.length, none⟩ = some (.int .i64 7) := pw_cell_below HB9.out (pw_cell_below HB68.out HCE.out)))
  have hxs : (encV f t b es).length < 100000 := enc_len HG.out
  have hpos : 0 < (encV f t b es).length := by simp [encV]
  have HE : Aside0 (decV (encV f t b es) = some (f, t, b, es)) := ⟨dec_enc HG.out q0 q1⟩
  have HEB : Aside0 (∀ x ∈ encV f t b es, 0 ≤ x ∧ x < 256) := ⟨enc_bytes HG.out q0 q1⟩
  generalize hx : encV f t b es = x at HE HEB hxs hpos HR5 HR7
  have HX := Aside0.mk hx
  clear hx
  obtain ⟨gb, cb, rfl, hgb, hgb2, -⟩ := Kd.R_form HR5.out hpos
  obtain ⟨gc, cc, rfl, hgc, hgc2, -⟩ := Kd.R_form HR7.out hpos
  have hk8 := blk_lt HK6.out
  have h69 := HB6.out.size
  have h67 := HB7.out.size
  have h78 := HB8.out.size
  have h89 := HB9.out.size
  obtain ⟨S1, HS1⟩ : ∃ S : Nat → Prop, Aside0 (∀ k, S k ↔ w.heap.size < k ∧ ¬ (w7.heap.size ≤ k ∧ k < w8.heap.size)) := ⟨_, ⟨fun _ => Iff.rfl⟩⟩
  have HS1w : Aside0 (∀ k, S1 k → w.heap.size ≤ k) := ⟨fun k h => by have := (HS1.out k).1 h; omega⟩
  have HF1 : Aside0 (∀ k, w9.heap.size ≤ k → S1 k) := ⟨fun k h => (HS1.out k).2 (by omega)⟩
  have HP9 : Aside0 (Ph w w9 S1 w9) := ⟨⟨below_step HBW8.out HB9.out, Kept.refl _ _⟩⟩
  have HRb : Aside0 (Kd.R (Kd.int .u8) 5 w9 w.heap.size S1 (.slice (some ⟨gb, 0, none⟩) x.length cb) x) := ⟨Kd.R_reok rfl (Kd.R_lower (Kd.R_below (Kd.R_below HR5.out HB8.out) HB9.out) h69) (fun k hk => by
    obtain rfl : gb = k := by simpa [Value.ownBlock] using hk
    exact (HS1.out _).2 (by omega))⟩
  have HRc : Aside0 (Kd.R (Kd.int .u8) 5 w9 w.heap.size (fun k => ¬ S1 k) (.slice (some ⟨gc, 0, none⟩) x.length cc) x) := ⟨Kd.R_reok rfl (Kd.R_lower (Kd.R_below HR7.out HB9.out) (by omega)) (fun k hk h => by
    obtain rfl : gc = k := by simpa [Value.ownBlock] using hk
    have := (HS1.out _).1 h
    omega)⟩
  have HK9 := Aside0.mk (blk_below HK8.out HB9.out)
  have HG1 : Aside0 (¬ S1 w.heap.size) := ⟨fun h => by have := (HS1.out _).1 h; omega⟩
  have HGc : Aside0 (w7.heap.size ≤ gc ∧ gc < w8.heap.size) := ⟨hgc, hgc2⟩
  clear hgb hgb2 hgc hgc2 x0 x1 x2 x3 y0 y1 y2 y3 z3 zf HR5 HR7 HCF8 HCF7 HCE HG6 HG7 HG8
  go_upto_region 13 with (fail)
  go_loopw [64] (fun iv wr => ∃ (i : Nat) (xs : List Int), i ≤ x.length ∧ iv = .int .i64 i ∧ xs.length = x.length ∧ Aside0 (Ph w w9 S1 wr) ∧ Aside0 (Kd.R (Kd.int .u8) 5 wr w.heap.size S1 (.slice (some ⟨gb, 0, none⟩) x.length cb) xs)) (fun iv _ => x.length - (intOf iv).toNat)
  case atStart => exact ⟨0, x, by omega, rfl, rfl, HP9, HRb⟩
  case round =>
    obtain ⟨i, xs, hi, rfl, hxl, H1, H2⟩ := hrel
    by_cases hk : i < x.length
    · have hcell : wr.cell? ⟨gb, i, none⟩ = some (.int .u8 (rdOf 0 xs i)) := (Kd.R_cell (0 : Int) (by rw [hxl]; exact H2.out) i (by omega) (by omega)).1
      have hfr : wr.frozen? ⟨gb, i, none⟩ = false := (Kd.R_cell (0 : Int) (by rw [hxl]; exact H2.out) i (by omega) (by omega)).2
      have hkz : (i : Int) < x.length := by omega
      go_wp2
      exact ⟨⟨i + 1, xs.set i 0, by omega, by go_num, by simp [hxl], ⟨(ph_put HS1w.out H1.out H2.out i 0).1⟩, ⟨(ph_put HS1w.out H1.out H2.out i 0).2⟩⟩, by simp [intOf]; omega⟩
    · have hkz : ¬ (i : Int) < x.length := by omega
      go_upto_region 18 with (fail)
      have HP := H1
      clear H1 hi hk hkz
      go_loopw [5, 10] (fun vv iv wr => ∃ (i : Nat) (xs : List Int), i ≤ 20 ∧ iv = .int .i64 i ∧ xs.length = x.length + i ∧ Aside0 (Ph w w9 S1 wr) ∧ Aside0 (Kd.R (Kd.int .u8) 5 wr w.heap.size S1 vv xs)) (fun vv iv _ => 20 - (intOf iv).toNat)
      case atStart => exact ⟨0, xs, by omega, rfl, hxl, HP, H2⟩
      case round =>
        obtain ⟨i, xs, hi, rfl, hxl, H1, H2⟩ := hrel
        by_cases hk : i < 20
        · have hkz : (i : Int) < 20 := by omega
          go_wp2_with (first
            | ((with_reducible refine gate_builtin (b := .append) (xs := #[.tmp 75, .tmp 76]) rfl ?_); at_builtin; go_must (refine Kd.R_append (Kd.int .u8) (w0 := w) w.heap.size rfl (.tmp 75) (.tmp 76) 27 5 (.int .u8 0) 1 rfl Try.underlying27 info5 rfl (by decide) (by omega) u5 xs 9 [.int .u8 9] S1 (fun _ => False) rfl rfl ?aP (fun _ hk => hk.elim) ?aF H2.out H1.out.1 ?aS ?aL ?_); (case aP => exact rfl); (case aF => exact (fun k hk => HF1.out k (Nat.le_trans H1.out.2.1 hk))); (case aS => exact H1.out.1.size); (case aL => omega); intro v1 w1 ho hb hg hat; have HO1 := Aside0.mk ho; have HP1 := Aside0.mk (ph_grown H1.out H2.out hg hb); clear ho hb hg hat))
          exact ⟨⟨i + 1, xs ++ [9], by omega, by go_num, by simp; omega, HP1, HO1⟩, by simp [intOf]; omega⟩
        · have hkz : ¬ (i : Int) < 20 := by omega
          have HBr := Aside0.mk H1.out.1
          have HKr := Aside0.mk (blk_kept HK9.out H1.out.2 HG1.out)
          have HCr := Aside0.mk (Kd.R_kept HRc.out H1.out.2 (fun k h => h))
          have HSr : Aside0 (w9.heap.size ≤ wr.heap.size) := ⟨H1.out.2.1⟩
          have HCc := Aside0.mk (Kd.R_reads' HCr.out).2.2
          clear H1 H2 hi hk hxl
          go_upto_region 22 with (first
            | ((with_reducible refine gate_dst (N := 78) rfl ?_); refine Kd.R_lit (Kd.int .u8) _ 5 ?hg (N := 78) ?hd (xs := ([] : List Int)) (inner := []) (ok := fun _ => True) (okp := fun _ => True) ?hr ?hp (fun _ hk => hk) trivial (Below.refl _ _) (Nat.le_refl _) (by simp) ?_; (case hd => rfl); (case hg => rfl); (case hr => first | (go_simp; done) | (go_simp; rfl)); (case hp => exact (Reps.none _ _)); intro v10 w10 ho hb hg_ hnew_; clear hg_ hnew_; have HO10 := Aside0.mk ho; have HB10 := Aside0.mk hb; clear ho hb)
            | ((with_reducible refine gate_builtin (b := .append) (xs := #[.tmp 78, .tmp 79]) rfl ?_); at_builtin; refine Kd.R_append_rows (Kd.int .u8) (w0 := wr) wr.heap.size rfl (.tmp 78) (.tmp 79) 27 5 (.int .u8 0) 1 rfl Try.underlying27 info5 rfl (by decide) (by omega) v10 [] x _ _ _ (fun _ => True) (fun _ => False) rfl rfl ?aO ?aR (fun _ _ h => h) (fun _ h => h.elim) ?aF ?aB ?aS ?aL ?_; (case aR => exact (Kd.C_below HCc.out HB10.out)); (case aB => exact HB10.out); (case aF => exact (fun _ _ => trivial)); (case aO => exact HO10.out); (case aS => exact HB10.out.size); (case aL => simp; omega); intro v11 w11 ho hb hg hat; have HO11 := Aside0.mk ho; have HB11 := Aside0.mk hb; clear ho hb hg hat)
            | ((with_reducible refine gate_builtin (b := .append) (xs := #[.tmp 80, .tmp 81]) rfl ?_); at_builtin; refine Kd.R_append (Kd.int .u8) (w0 := wr) wr.heap.size rfl (.tmp 80) (.tmp 81) 27 5 (.int .u8 0) 1 rfl Try.underlying27 info5 rfl (by decide) (by omega) v11 x 8 [.int .u8 8] (fun _ => True) (fun _ => False) rfl rfl ?aP (fun _ hk => hk.elim) ?aF HO11.out HB11.out ?aS ?aL ?_; (case aP => exact rfl); (case aF => exact (fun _ _ => trivial)); (case aS => exact HB11.out.size); (case aL => omega); intro v12 w12 ho hb hg hat; have HO12 := Aside0.mk ho; have HB12 := Aside0.mk hb; clear ho hb hg hat))
          obtain ⟨gr, cr, rfl, hgr, hgr2, -⟩ := Kd.R_form HO12.out (by simp)
          have hcr : x.length + 1 ≤ cr := by have h := (Kd.R_reads' HO12.out).2.1; simpa using h
          have hlen8 : (x ++ [(8 : Int)]).length = x.length + 1 := by simp
          have HTK : Aside0 (Kd.C (Kd.int .u8) w12 (some ⟨gr, 0, none⟩) x.length x) := ⟨by
            have h2 := Kd.C_take (Kd.R_reads' HO12.out).2.2 (m := x.length) (by simp)
            have hT : List.take x.length (x ++ [(8 : Int)]) = x := by simp
            rw [hT] at h2
            exact h2⟩
          have hcr2 : x.length ≤ cr := by omega
          go_upto_region 23 with (first
            | (go_at_call 12; go_must (refine (dec_calls (some ⟨gr, 0, none⟩) cr x w12 HTK.out hcr2 HEB.out).mono ?_); intro e w13 hq; obtain ⟨hb13, he, _⟩ := hq; obtain ⟨vx, rfl, hrx⟩ := he _ _ _ _ HE.out; obtain ⟨Ax, cx, rfl, hcx, _⟩ := Kd.R_reads hrx; have HX13 := Aside0.mk hrx; have HB13 := Aside0.mk hb13; clear he hb13 hrx))
          have HB14 := Aside0.mk (below_alloc HB13.out (.cells #[.int .i64 f, .int .i64 t, .int .u32 b, .slice Ax es.length cx] 25))
          have HG14 := Aside0.mk (blk_new w13 (.cells #[.int .i64 f, .int .i64 t, .int .u32 b, .slice Ax es.length cx] 25))
          have HX14 := Aside0.mk (Kd.R_alloc (Kd.R_mono (ok' := fun k => w12.heap.size ≤ k ∧ k < w13.heap.size) (Kd.R_bound HX13.out) (fun k hk => ⟨hk.2.1, hk.2.2.1⟩)) (.cells #[.int .i64 f, .int .i64 t, .int .u32 b, .slice Ax es.length cx] 25))
          have hg12 : w12.heap.size ≤ w13.heap.size := HB13.out.size
          have hw14 : w13.heap.size < (w13.alloc (.cells #[.int .i64 f, .int .i64 t, .int .u32 b, .slice Ax es.length cx] 25)).heap.size := by simp
          generalize w13.alloc (.cells #[.int .i64 f, .int .i64 t, .int .u32 b, .slice Ax es.length cx] 25) = w14 at *
          generalize w13.heap.size = g12 at *
          have HTK14 := Aside0.mk (Kd.C_below HTK.out HB14.out)
          go_upto_region 24 with (first
            | (go_at_call 12; go_must (refine (dec_calls (some ⟨gr, 0, none⟩) cr x w14 HTK14.out hcr2 HEB.out).mono ?_); intro e w15 hq; obtain ⟨hb15, he, _⟩ := hq; obtain ⟨vy, rfl, hry⟩ := he _ _ _ _ HE.out; obtain ⟨Ay, cy, rfl, hcy, _⟩ := Kd.R_reads hry; have HY15 := Aside0.mk hry; have HB15 := Aside0.mk hb15; clear he hb15 hry))
          have HB16 := Aside0.mk (below_alloc HB15.out (.cells #[.int .i64 f, .int .i64 t, .int .u32 b, .slice Ay es.length cy] 25))
          have HH16 := Aside0.mk (blk_new w15 (.cells #[.int .i64 f, .int .i64 t, .int .u32 b, .slice Ay es.length cy] 25))
          have HY16 := Aside0.mk (Kd.R_alloc (Kd.R_mono (ok' := fun k => w14.heap.size ≤ k ∧ k < w15.heap.size) (Kd.R_bound HY15.out) (fun k hk => ⟨hk.2.1, hk.2.2.1⟩)) (.cells #[.int .i64 f, .int .i64 t, .int .u32 b, .slice Ay es.length cy] 25))
          have hg14 : w14.heap.size ≤ w15.heap.size := HB15.out.size
          have hw16 : w15.heap.size < (w15.alloc (.cells #[.int .i64 f, .int .i64 t, .int .u32 b, .slice Ay es.length cy] 25)).heap.size := by simp
          generalize w15.alloc (.cells #[.int .i64 f, .int .i64 t, .int .u32 b, .slice Ay es.length cy] 25) = w16 at *
          generalize w15.heap.size = g14 at *
          have HB1216 := Aside0.mk (below_step HB14.out HB16.out)
          have HBr16 := Aside0.mk (below_step HB12.out HB1216.out)
          have HBW16 := Aside0.mk (below_step HBr.out HBr16.out)
          have hcv := fun (n : Nat) => Kd.C_string (P := Try.prog) (A := some ⟨gr, 0, none⟩) (c := cr) Try.underlying27 Try.underlying5 Try.underlying9 (Kd.C_drewN (Kd.C_below HTK.out HB1216.out) n)
          have hcw := fun (n : Nat) => Kd.C_string (P := Try.prog) (A := some ⟨gc, 0, none⟩) (c := cc) Try.underlying27 Try.underlying5 Try.underlying9 (Kd.C_drewN (Kd.C_below HCc.out HBr16.out) n)
          have hne : ((strOfNums x).toList != (strOfNums x).toList) = false := by simp
          have h8c : w16.cell? ⟨gr, x.length, none⟩ = some (.int .u8 8) := pw_cell_below HB1216.out (room_cell HO12.out)
          go_quiet (fail)
          have h912 : w9.heap.size ≤ wr.heap.size := HSr.out
          have hrr : wr.heap.size ≤ w12.heap.size := HB12.out.size
          have hgcx := HGc.out
          clear hcv hcw h8c hne HTK HTK14
          obtain ⟨S3, HS3⟩ : ∃ S : Nat → Prop, Aside0 (∀ k, S k ↔ w.heap.size < k ∧ ¬ (w7.heap.size ≤ k ∧ k < w8.heap.size) ∧ ¬ (w12.heap.size ≤ k ∧ k < w16.heap.size)) := ⟨_, ⟨fun _ => Iff.rfl⟩⟩
          obtain ⟨S4, HS4⟩ : ∃ S : Nat → Prop, Aside0 (∀ k, S k ↔ w.heap.size < k ∧ ¬ (w7.heap.size ≤ k ∧ k < w8.heap.size) ∧ ¬ (w14.heap.size ≤ k ∧ k < w16.heap.size)) := ⟨_, ⟨fun _ => Iff.rfl⟩⟩
          have HS3w : Aside0 (∀ k, S3 k → w.heap.size ≤ k) := ⟨fun k h => by have := (HS3.out k).1 h; omega⟩
          have HS4w : Aside0 (∀ k, S4 k → w.heap.size ≤ k) := ⟨fun k h => by have := (HS4.out k).1 h; omega⟩
          have HF4 : Aside0 (∀ k, w16.heap.size ≤ k → S4 k) := ⟨fun k h => (HS4.out k).2 (by omega)⟩
          have HP17 : Aside0 (Ph w (w16.drewN nq) S3 (w16.drewN nq)) := ⟨⟨pw_below_drewN HBW16.out nq, Kept.refl _ _⟩⟩
          have HK17 := Aside0.mk (blk_drewN (blk_below HKr.out HBr16.out) nq)
          have HRc17 : Aside0 (Kd.R (Kd.int .u8) 5 (w16.drewN nq) w.heap.size (fun k => k = gc) (.slice (some ⟨gc, 0, none⟩) x.length cc) x) := ⟨Kd.R_drewN (Kd.R_reok rfl (Kd.R_below HCr.out HBr16.out) (fun k hk => by
            obtain rfl : gc = k := by simpa [Value.ownBlock] using hk
            rfl)) nq⟩
          have HRr17 : Aside0 (Kd.R (Kd.int .u8) 5 (w16.drewN nq) w.heap.size S3 (.slice (some ⟨gr, 0, none⟩) (x.length + 1) cr) (x ++ [8])) := ⟨Kd.R_drewN (Kd.R_reok rfl (Kd.R_lower (Kd.R_below (by have h := HO12.out; rw [hlen8] at h; exact h) HB1216.out) (by omega)) (fun k hk => by
            obtain rfl : gr = k := by simpa [Value.ownBlock] using hk
            exact (HS3.out _).2 (by omega))) nq⟩
          have HX17 : Aside0 (Kd.R (Kd.int .i64) 3 (w16.drewN nq) w.heap.size (fun k => w12.heap.size ≤ k ∧ k < g12) (.slice Ax es.length cx) es) := ⟨Kd.R_drewN (Kd.R_lower (Kd.R_below HX14.out HB16.out) (by omega)) nq⟩
          have HY17 : Aside0 (Kd.R (Kd.int .i64) 3 (w16.drewN nq) w.heap.size (fun k => w14.heap.size ≤ k ∧ k < g14) (.slice Ay es.length cy) es) := ⟨Kd.R_drewN (Kd.R_lower HY16.out (by omega)) nq⟩
          have HG17 := Aside0.mk (blk_drewN (blk_below HG14.out HB16.out) nq)
          have HH17 := Aside0.mk (blk_drewN HH16.out nq)
          have hz17 : (w16.drewN nq).heap.size = w16.heap.size := rfl
          generalize w16.drewN nq = w17 at *
          clear HX13 HY15 HX14 HY16 HG14 HH16 HBW16 HBr16 HB1216 HB12 HB13 HB14 HB15 HB16 HO12 HO11 HB11 HO10 HB10 HCc HCr HKr HBr
          go_upto_region 27 with (fail)
          go_loopw [117] (fun iv wr => ∃ (i : Nat) (xs : List Int), i ≤ x.length + 1 ∧ iv = .int .i64 i ∧ xs.length = x.length + 1 ∧ Aside0 (Ph w w17 S3 wr) ∧ Aside0 (Kd.R (Kd.int .u8) 5 wr w.heap.size S3 (.slice (some ⟨gr, 0, none⟩) (x.length + 1) cr) xs)) (fun iv _ => x.length + 1 - (intOf iv).toNat)
          case atStart => exact ⟨0, x ++ [8], by omega, rfl, hlen8, HP17, HRr17⟩
          case round =>
            obtain ⟨i, xs, hi, rfl, hxl, H1, H2⟩ := hrel
            by_cases hk : i < x.length + 1
            · have hcell : wr.cell? ⟨gr, i, none⟩ = some (.int .u8 (rdOf 0 xs i)) := (Kd.R_cell (0 : Int) (by rw [hxl]; exact H2.out) i (by omega) (by omega)).1
              have hfr : wr.frozen? ⟨gr, i, none⟩ = false := (Kd.R_cell (0 : Int) (by rw [hxl]; exact H2.out) i (by omega) (by omega)).2
              have hkz : (i : Int) < x.length + 1 := by omega
              go_wp2
              exact ⟨⟨i + 1, xs.set i 255, by omega, by go_num, by simp [hxl], ⟨(ph_put HS3w.out H1.out H2.out i 255).1⟩, ⟨(ph_put HS3w.out H1.out H2.out i 255).2⟩⟩, by simp [intOf]; omega⟩
            · have hkz : ¬ (i : Int) < x.length + 1 := by omega
              have HB18 := Aside0.mk H1.out.1
              have hs3 : w17.heap.size ≤ wr.heap.size := H1.out.2.1
              have HK18 := Aside0.mk (blk_kept HK17.out H1.out.2 (fun h => by have := (HS3.out _).1 h; omega))
              have HG18 := Aside0.mk (blk_kept HG17.out H1.out.2 (fun h => by have := (HS3.out _).1 h; omega))
              have HH18 := Aside0.mk (blk_kept HH17.out H1.out.2 (fun h => by have := (HS3.out _).1 h; omega))
              have HRc18 := Aside0.mk (Kd.R_kept HRc17.out H1.out.2 (fun k hk h => by have := (HS3.out k).1 h; omega))
              have HX18 := Aside0.mk (Kd.R_mono (ok' := S4) (Kd.R_kept HX17.out H1.out.2 (fun k hk h => by have := (HS3.out k).1 h; omega)) (fun k hk => (HS4.out k).2 (by omega)))
              have HY18 := Aside0.mk (Kd.R_kept HY17.out H1.out.2 (fun k hk h => by have := (HS3.out k).1 h; omega))
              have HS4g : Aside0 (S4 g12) := ⟨(HS4.out _).2 (by omega)⟩
              have HP18 : Aside0 (Ph w wr S4 wr) := ⟨⟨HB18.out, Kept.refl _ _⟩⟩
              clear H1 H2 HK17 HG17 HH17 HRc17 HX17 HY17 HP17 HRr17 hi hk hxl
              have x3 : wr.cell? ⟨g12, 3, none⟩ = some (.slice Ax es.length cx) := (blk_cell HG18.out 3).trans rfl
              go_upto_region 32 with (fail)
              clear hkz x3
              rename World => w18
              go_loopw [127] (fun iv wz => ∃ (i : Nat) (xs : List Int), i ≤ es.length ∧ iv = .int .i64 i ∧ xs.length = es.length ∧ Aside0 (Ph w w18 S4 wz) ∧ Aside0 (Kd.R (Kd.int .i64) 3 wz w.heap.size S4 (.slice Ax es.length cx) xs) ∧ Aside0 (wz.heap[g12]? = some (.cells #[.int .i64 f, .int .i64 t, .int .u32 b, .slice Ax es.length cx] 25 (0, 0)))) (fun iv _ => es.length - (intOf iv).toNat)
              case atStart => exact ⟨0, es, by omega, rfl, rfl, HP18, HX18, HG18⟩
              case round =>
                obtain ⟨i, xs, hi, rfl, hxl, H1, H2, H3⟩ := hrel
                by_cases hk : i < es.length
                · obtain ⟨gx, cx', hgx, -, -, -⟩ := Kd.R_form H2.out (by omega)
                  simp only [Value.slice.injEq] at hgx
                  obtain ⟨rfl, -, rfl⟩ := hgx
                  have x3 : wr.cell? ⟨g12, 3, none⟩ = some (.slice (some ⟨gx, 0, none⟩) es.length cx) := (blk_cell H3.out 3).trans rfl
                  have hcell : wr.cell? ⟨gx, i, none⟩ = some (.int .i64 (rdOf 0 xs i)) := (Kd.R_cell (0 : Int) (by rw [hxl]; exact H2.out) i (by omega) (by omega)).1
                  have hfr : wr.frozen? ⟨gx, i, none⟩ = false := (Kd.R_cell (0 : Int) (by rw [hxl]; exact H2.out) i (by omega) (by omega)).2
                  have hkz : (i : Int) < es.length := by omega
                  have hgg : g12 ≠ gx := fun h => Kd.R_ne H2.out H3.out (by decide) (by rw [h]; rfl)
                  go_wp2
                  exact ⟨⟨i + 1, xs.set i (-1), by omega, by go_num, by simp [hxl], ⟨(ph_put HS4w.out H1.out H2.out i (-1)).1⟩, ⟨(ph_put HS4w.out H1.out H2.out i (-1)).2⟩, ⟨blk_far H3.out (p := ⟨gx, i, none⟩) hgg _⟩⟩, by simp [intOf]; omega⟩
                · have hkz : ¬ (i : Int) < es.length := by omega
                  go_upto_region 37 with (fail)
                  have HP := H1
                  have HRx := H2
                  have HGx := H3
                  clear H1 H2 H3 hi hk hkz
                  go_loopw [18] (fun iv wz => ∃ (i : Nat) (v : Value) (xs : List Int), i ≤ 20 ∧ iv = .int .i64 i ∧ xs.length = es.length + i ∧ Aside0 (Ph w w18 S4 wz) ∧ Aside0 (Kd.R (Kd.int .i64) 3 wz w.heap.size S4 v xs) ∧ Aside0 (wz.heap[g12]? = some (.cells #[.int .i64 f, .int .i64 t, .int .u32 b, v] 25 (0, 0)))) (fun iv _ => 20 - (intOf iv).toNat)
                  case atStart => exact ⟨0, _, xs, by omega, rfl, hxl, HP, HRx, HGx⟩
                  case round =>
                    clear HP HRx HGx hxl
                    obtain ⟨i, v, xs, hi, rfl, hxl, H1, H2, H3⟩ := hrel
                    obtain ⟨Av, cv, hv⟩ := Kd.R_slice H2.out
                    rw [hxl] at hv
                    subst hv
                    by_cases hk : i < 20
                    · have hkz : (i : Int) < 20 := by omega
                      have x3 : wr.cell? ⟨g12, 3, none⟩ = some (.slice Av (es.length + i) cv) := (blk_cell H3.out 3).trans rfl
                      have hesl := (good_ok HG.out).1
                      go_wp2_with (first
                        | ((with_reducible refine gate_builtin (b := .append) (xs := #[.tmp 140, .tmp 141]) rfl ?_); at_builtin; go_must (refine Kd.R_append (Kd.int .i64) (w0 := w) w.heap.size rfl (.tmp 140) (.tmp 141) 23 3 (.int .i64 0) 8 rfl Try.underlying23 info3 rfl (by decide) (by omega) (.slice Av (es.length + i) cv) xs (-2) [.int .i64 (-2)] S4 (fun _ => False) rfl rfl ?aP (fun _ hk => hk.elim) ?aF H2.out H1.out.1 ?aS ?aL ?_); (case aP => exact rfl); (case aF => exact (fun k hk => HF4.out k (by have := H1.out.2.1; omega))); (case aS => exact H1.out.1.size); (case aL => omega); intro v1 w1 ho hb hg hat; obtain ⟨A1, c1, rfl⟩ := Kd.R_slice ho; have HO1 := Aside0.mk ho; have HP1 := Aside0.mk (ph_grown H1.out H2.out hg hb); have HG1 := Aside0.mk (blk_grown H3.out hg (Kd.R_ne H2.out H3.out (by decide))); clear ho hb hg hat; have z3 : w1.cell? ⟨g12, 3, none⟩ = some (.slice Av (es.length + i) cv) := (blk_cell HG1.out 3).trans rfl; have f3 := blk_frozen HG1.out 3))
                      have hl1 : (xs ++ [(-2 : Int)]).length = es.length + i + 1 := by simp; omega
                      have HO2 : Aside0 (Kd.R (Kd.int .i64) 3 w1 w.heap.size S4 (.slice A1 (es.length + i + 1) c1) (xs ++ [-2])) := ⟨by have h := HO1.out; rw [hl1] at h; exact h⟩
                      exact ⟨⟨i + 1, .slice A1 (es.length + i + 1) c1, xs ++ [-2], by omega, by go_num, by simp; omega, ⟨⟨below_set HP1.out.1 (HS4w.out _ HS4g.out), HP1.out.2.setCell (.inl HS4g.out) _⟩⟩, ⟨Kd.R_set HO2.out HG1.out (by decide) 3 _⟩, ⟨blk_put HG1.out 3 _ rfl⟩⟩, by simp [intOf]; omega⟩
                    · have hkz : ¬ (i : Int) < 20 := by omega
                      go_upto_region 40 with (fail)
                      have HB19 := Aside0.mk (below_drew H1.out.1)
                      have HK19 := Aside0.mk (blk_drew (blk_kept HK18.out H1.out.2 (fun h => by have := (HS4.out _).1 h; omega)))
                      have HH19 := Aside0.mk (blk_drew (blk_kept HH18.out H1.out.2 (fun h => by have := (HS4.out _).1 h; omega)))
                      have HC19 := Aside0.mk (Kd.C_drew (Kd.R_reads' (Kd.R_kept HRc18.out H1.out.2 (fun k hk h => by have := (HS4.out k).1 h; omega))).2.2)
                      have HY19 := Aside0.mk (Kd.C_drew (Kd.R_reads' (Kd.R_kept HY18.out H1.out.2 (fun k hk h => by have := (HS4.out k).1 h; omega))).2.2)
                      have HENC : Aside0 (PWitnessEncodes.brambleref16_Encode.f 2000 f t b es = some x) := ⟨by rw [Enc.encode_f f t b es 2000 HG.out ⟨q0, q1⟩ (by omega), HX.out]⟩
                      clear H1 H2 H3
                      refine wp_region_noPanic ?_
                      refine start_ (n := 12) (S := fun w' => Below wr.drew.heap.size wr.drew w') (ds := []) #[false, false, false, false, false, false, false, false, false, false, false, false] (by kernel_rfl) rfl rfl (Below.refl _ _) (fun hHeld => ?_)
                      generalize wr.drew = w19 at *
                      refine pure_ (i := 0) (N := some 144) (v := ?_) (a' := ?_) #[true, false, false, false, false, false, false, false, false, false, false, false] rfl rfl (by kernel_rfl) (fun _ _ _ h => h) (Or.inl ⟨by rfl, ?_⟩) ?_ ?_
                      rotate_left
                      · intro w'
                        go_simp
                        with_reducible rfl
                      rotate_left
                      · simp only [Act.put, List.setIfInBounds_toArray, List.set_cons_zero, List.set_cons_succ]
                        rfl
                      refine take_ (i := 1) (N := some 145) (v := ?_) (a' := ?_) #[true, true, false, false, false, false, false, false, false, false, false, false] rfl rfl (by kernel_rfl) (fun _ _ _ h => h) (Or.inl ⟨by rfl, ?_⟩) hHeld ?_ ?_
                      rotate_left
                      · intro w' hb
                        have hcv := Kd.C_string (P := Try.prog) (A := some ⟨gc, 0, none⟩) (c := cc) Try.underlying27 Try.underlying5 Try.underlying9 (Kd.C_below HC19.out hb)
                        go_simp
                        with_reducible rfl
                      rotate_left
                      · simp only [Act.put, List.setIfInBounds_toArray, List.set_cons_zero, List.set_cons_succ]
                        rfl
                      refine take_ (i := 2) (N := some 146) (v := ?_) (a' := ?_) #[true, true, true, false, false, false, false, false, false, false, false, false] rfl rfl (by kernel_rfl) (fun _ _ _ h => h) (Or.inl ⟨by rfl, ?_⟩) hHeld ?_ ?_
                      rotate_left
                      · intro w' hb
                        have s0 : w'.cell? ⟨w.heap.size, 0, none⟩ = some (.int .i64 f) := pw_cell_below hb ((blk_cell HK19.out 0).trans rfl)
                        have s1 : w'.cell? ⟨w.heap.size, 1, none⟩ = some (.int .i64 t) := pw_cell_below hb ((blk_cell HK19.out 1).trans rfl)
                        have s2 : w'.cell? ⟨w.heap.size, 2, none⟩ = some (.int .u32 b) := pw_cell_below hb ((blk_cell HK19.out 2).trans rfl)
                        have s3 : w'.cell? ⟨w.heap.size, 3, none⟩ = some (.slice A es.length c) := pw_cell_below hb ((blk_cell HK19.out 3).trans rfl)
                        go_simp
                        with_reducible rfl
                      rotate_left
                      · simp only [Act.put, List.setIfInBounds_toArray, List.set_cons_zero, List.set_cons_succ]
                        rfl
                      refine one_ (i := 3) (N := some 147) #[true, true, true, true, false, false, false, false, false, false, false, false] rfl rfl (by kernel_rfl) (by decide) (fun K hK => ?_)
                      refine goes_ Try.func11 (by kernel_rfl) rfl #[.agg #[.int .i64 f, .int .i64 t, .int .u32 b, .slice A es.length c]] (by rfl) rfl rfl (by (try simp only [List.map_toArray, List.map_cons, List.map_nil]); first | done | rfl) ?_
                      refine (PWitnessEncodes.brambleref16_Encode.calls 2000 f t b A c es x w19 (Kd.C_below HR.out HB19.out) hc HENC.out).mono ?_
                      rintro e w20 ⟨v20, rfl, hr20, hb20⟩
                      refine ⟨_, rfl, ?_⟩
                      have hcx := own_string (src := 27) (dst := 9) Try.underlying27 Try.underlying5 Try.underlying9 (Kd.own_of_R hr20)
                      refine hK.out _ _ hb20 (fun hHeld => ?_)
                      clear hK K
                      refine norm_ (a' := ?_) ?_ ?_
                      rotate_left
                      · show Act.put _ (some 147) _ = _
                        simp only [Act.put, List.setIfInBounds_toArray, List.set_cons_zero, List.set_cons_succ]
                        rfl
                      refine one_ (i := 4) (N := some 148) #[true, true, true, true, true, false, false, false, false, false, false, false] rfl rfl (by kernel_rfl) (by decide) (fun K hK => ?_)
                      refine value_ (w1 := w20) (v := .string (strOfNums x)) (by rfl) rfl ?_ ?_
                      · go_simp
                      refine hK.out _ _ hb20 (fun hHeld => ?_)
                      clear hK K
                      refine norm_ (a' := ?_) ?_ ?_
                      rotate_left
                      · show Act.put _ (some 148) _ = _
                        simp only [Act.put, List.setIfInBounds_toArray, List.set_cons_zero, List.set_cons_succ]
                        rfl
                      refine pure_ (i := 5) (N := some 149) (v := ?_) (a' := ?_) #[true, true, true, true, true, true, false, false, false, false, false, false] rfl rfl (by kernel_rfl) (fun _ _ _ h => h) (Or.inl ⟨by rfl, ?_⟩) ?_ ?_
                      rotate_left
                      · intro w'
                        go_simp
                        with_reducible rfl
                      rotate_left
                      · simp only [Act.put, List.setIfInBounds_toArray, List.set_cons_zero, List.set_cons_succ]
                        rfl
                      refine pure_ (i := 6) (N := some 150) (v := ?_) (a' := ?_) #[true, true, true, true, true, true, true, false, false, false, false, false] rfl rfl (by kernel_rfl) (fun _ _ _ h => h) (Or.inl ⟨by rfl, ?_⟩) ?_ ?_
                      rotate_left
                      · intro w'
                        go_simp
                        with_reducible rfl
                      rotate_left
                      · simp only [Act.put, List.setIfInBounds_toArray, List.set_cons_zero, List.set_cons_succ]
                        rfl
                      refine take_ (i := 7) (N := some 151) (v := ?_) (a' := ?_) #[true, true, true, true, true, true, true, true, false, false, false, false] rfl rfl (by kernel_rfl) (fun _ _ _ h => h) (Or.inl ⟨by rfl, ?_⟩) hHeld ?_ ?_
                      rotate_left
                      · intro w' hb
                        have s0 : w'.cell? ⟨g14, 0, none⟩ = some (.int .i64 f) := pw_cell_below hb ((blk_cell HH19.out 0).trans rfl)
                        have s1 : w'.cell? ⟨g14, 1, none⟩ = some (.int .i64 t) := pw_cell_below hb ((blk_cell HH19.out 1).trans rfl)
                        have s2 : w'.cell? ⟨g14, 2, none⟩ = some (.int .u32 b) := pw_cell_below hb ((blk_cell HH19.out 2).trans rfl)
                        have s3 : w'.cell? ⟨g14, 3, none⟩ = some (.slice Ay es.length cy) := pw_cell_below hb ((blk_cell HH19.out 3).trans rfl)
                        go_simp
                        with_reducible rfl
                      rotate_left
                      · simp only [Act.put, List.setIfInBounds_toArray, List.set_cons_zero, List.set_cons_succ]
                        rfl
                      refine take_ (i := 8) (N := some 152) (v := ?_) (a' := ?_) #[true, true, true, true, true, true, true, true, true, false, false, false] rfl rfl (by kernel_rfl) (fun _ _ _ h => h) (Or.inl ⟨by rfl, ?_⟩) hHeld ?_ ?_
                      rotate_left
                      · intro w' hb
                        have s0 : w'.cell? ⟨w.heap.size, 0, none⟩ = some (.int .i64 f) := pw_cell_below hb ((blk_cell HK19.out 0).trans rfl)
                        have s1 : w'.cell? ⟨w.heap.size, 1, none⟩ = some (.int .i64 t) := pw_cell_below hb ((blk_cell HK19.out 1).trans rfl)
                        have s2 : w'.cell? ⟨w.heap.size, 2, none⟩ = some (.int .u32 b) := pw_cell_below hb ((blk_cell HK19.out 2).trans rfl)
                        have s3 : w'.cell? ⟨w.heap.size, 3, none⟩ = some (.slice A es.length c) := pw_cell_below hb ((blk_cell HK19.out 3).trans rfl)
                        go_simp
                        with_reducible rfl
                      rotate_left
                      · simp only [Act.put, List.setIfInBounds_toArray, List.set_cons_zero, List.set_cons_succ]
                        rfl
                      refine one_ (i := 9) (N := some 153) #[true, true, true, true, true, true, true, true, true, true, false, false] rfl rfl (by kernel_rfl) (by decide) (fun K hK => ?_)
                      refine goes_ Try.func14 (by kernel_rfl) rfl #[.agg #[.int .i64 f, .int .i64 t, .int .u32 b, .slice Ay es.length cy], .agg #[.int .i64 f, .int .i64 t, .int .u32 b, .slice A es.length c]] (by rfl) rfl rfl (by (try simp only [List.map_toArray, List.map_cons, List.map_nil]); first | done | rfl) ?_
                      refine (PWitnessDecodes.brambleref16_Same.calls (es.length + 5) f t b Ay cy es f t b A c es true w20 (Kd.C_below HY19.out hb20) hcy (Kd.C_below (Kd.C_below HR.out HB19.out) hb20) hc HSAME.out).mono ?_
                      rintro e w21 ⟨rfl, hb21⟩
                      refine ⟨_, rfl, ?_⟩
                      refine hK.out _ _ (below_step hb20 hb21) (fun hHeld => ?_)
                      clear hK K
                      refine norm_ (a' := ?_) ?_ ?_
                      rotate_left
                      · show Act.put _ (some 153) _ = _
                        simp only [Act.put, List.setIfInBounds_toArray, List.set_cons_zero, List.set_cons_succ]
                        rfl
                      refine pure_ (i := 10) (N := some 154) (v := ?_) (a' := ?_) #[true, true, true, true, true, true, true, true, true, true, true, false] rfl rfl (by kernel_rfl) (fun _ _ _ h => h) (Or.inl ⟨by rfl, ?_⟩) ?_ ?_
                      rotate_left
                      · intro w'
                        go_simp
                        with_reducible rfl
                      rotate_left
                      · simp only [Act.put, List.setIfInBounds_toArray, List.set_cons_zero, List.set_cons_succ]
                        rfl
                      refine pure_ (i := 11) (N := some 2) (v := ?_) (a' := ?_) #[true, true, true, true, true, true, true, true, true, true, true, true] rfl rfl (by kernel_rfl) (fun _ _ _ h => h) (Or.inl ⟨by rfl, ?_⟩) ?_ ?_
                      rotate_left
                      · intro w'
                        go_simp
                        with_reducible rfl
                      rotate_left
                      · simp only [Act.put, List.setIfInBounds_toArray, List.set_cons_zero, List.set_cons_succ]
                        rfl
                      refine done_ (by kernel_rfl) ?_
                      refine NoPanic.normal ?_
                      have HB21 := below_step HB19.out (below_step hb20 hb21)
                      go_wp2
                      go_ret
                      exact ⟨rfl, HB21⟩
end Go.Proofs.Ytfgoangcckiffaa.Og
