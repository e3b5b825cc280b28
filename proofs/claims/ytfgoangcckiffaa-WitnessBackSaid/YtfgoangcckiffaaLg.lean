/- This text proves the law WitnessBack as a walk: true whatever the witness, the bytes and the number (a witness is handed in; under way). -/
import Derived.Test.YtfgoangcckiffaaPb
import Derived.Test.YtfgoangcckiffaaLd
import Derived.Deep.DeepCutAuto
namespace Go.Proofs.Ytfgoangcckiffaa.Lg
open Go.RowKit Go.Proofs.YtfgoangcckiffaaW.PrintWords Go.Proofs.YtfgoangcckiffaaW.PrintLast Go.Proofs.YtfgoangcckiffaaW.PrintMore
open Go.Proofs.Ytfgoangcckiffaa.Good Go.Proofs.Ytfgoangcckiffaa.Tk Go.Proofs.Ytfgoangcckiffaa.Dc Go.Proofs.Ytfgoangcckiffaa.Pd Go.Proofs.Ytfgoangcckiffaa.Pr Go.Proofs.Ytfgoangcckiffaa.Awk Go.Proofs.Ytfgoangcckiffaa.Pb Go.Proofs.Ytfgoangcckiffaa.Ld Go.Proofs.Ytfgoangcckiffaa.EncW
open Go.Proofs.Ytfgoangcckiffaa.Enc (digs b4 all encV good_ok idx_all)
open Go.Proofs.Ytfgoangcckiffaa.PWitnessEncodes
set_option linter.unusedVariables false

theorem rem_nat (cut : Int) (k : Nat) (hk : 0 < k) (hk2 : k < 9223372036854775808) : ∃ n : Nat, wrap64 ((IntKind.u64.wrap cut).tmod (IntKind.u64.wrap (k : Int))) = n ∧ n < k := by
  have h1 : IntKind.u64.wrap (k : Int) = k := by simp [IntKind.wrap, IntKind.bits, IntKind.signed]; omega
  have h2 : 0 ≤ IntKind.u64.wrap cut := by simp [IntKind.wrap, IntKind.bits, IntKind.signed]; omega
  rw [h1, Int.tmod_eq_emod_of_nonneg h2]
  have h3 : 0 ≤ IntKind.u64.wrap cut % k := Int.emod_nonneg _ (by omega)
  have h4 : IntKind.u64.wrap cut % k < k := Int.emod_lt_of_pos _ (by omega)
  refine ⟨(IntKind.u64.wrap cut % k).toNat, ?_, by omega⟩
  rw [w64 (by omega) (by omega)]
  omega

theorem dec_any (l : List Int) (er : Int) (he : (∃ f t b es, decV l = some (f, t, b, es) ∧ er = 0) ∨ (decV l = none ∧ er = 160)) (hb : ∀ y ∈ l, 0 ≤ y ∧ y < 256) :
    ∀ (W : World) (A : Option Addr) (c : Nat), Kd.C (Kd.int .u8) W A l.length l → l.length ≤ c → Calls Try.prog 12 #[.slice A l.length c] W fun e w' => Below W.heap.size W w' ∧ ∃ (f t b : Int) (A9 : Option Addr) (n9 c9 : Nat), e = .returned (.tuple #[.agg #[.int .i64 f, .int .i64 t, .int .u32 b, .slice A9 n9 c9], .int .i64 er]) := by
  intro W A c hr hc
  refine (dec_calls A c l W hr hc hb).mono ?_
  rintro e w' ⟨h1, h2, h3⟩
  refine ⟨h1, ?_⟩
  rcases he with ⟨f, t, b, es, hd, rfl⟩ | ⟨hd, rfl⟩
  · obtain ⟨v, rfl, hv⟩ := h2 _ _ _ _ hd
    obtain ⟨A9, c9, rfl, _, _⟩ := Kd.R_reads hv
    exact ⟨f, t, b, A9, es.length, c9, rfl⟩
  · exact ⟨0, 0, 0, none, 0, 0, h3 hd⟩

theorem enc_len {f t b : Int} {es : List Int} (hg : goodV f t es = 0) : (encV f t b es).length < 100000 := by
  obtain ⟨h1, h2, h3, h4, h5, h6⟩ := good_ok hg
  have h7 := Enc.all_len es (idx_all _ 0 (by omega) h6)
  have h8 := Enc.pre2_len f t b es h3 h5 h1
  have h9 : encV f t b es = Enc.pre2 f t b es ++ all es := rfl
  rw [h9, List.length_append]
  omega

theorem take1 {w : World} {B : Option Addr} {l : List Int} (h : Kd.C (Kd.int .u8) w B l.length l) : Kd.C (Kd.int .u8) w B (l.take 1).length (l.take 1) := by
  have h2 := Kd.C_take h (m := (l.take 1).length) (by simp; omega)
  rw [show l.take (l.take 1).length = l.take 1 by simp] at h2
  first | exact h2 | simpa using h2

set_option maxHeartbeats 1000000 in
theorem law_good (f t b : Int) (A : Option Addr) (c : Nat) (es : List Int) (B : Option Addr) (d : Nat) (l : List Int) (cut : Int) (w : World) (hr : Kd.C (Kd.int .i64) w A es.length es) (hc : es.length ≤ c) (hrb : Kd.C (Kd.int .u8) w B l.length l) (hd : l.length ≤ d)
    (hb : ∀ x ∈ l, 0 ≤ x ∧ x < 256) (hl : l.length < 140737488355328) (hel : es.length < 17592186044416) (hg : goodV f t es = 0) (q0 : 0 ≤ b) (q1 : b < 4294967296) (hcut : -9223372036854775808 ≤ cut ∧ cut < 9223372036854775808) :
    Calls Try.prog 5 #[.agg #[.int .i64 f, .int .i64 t, .int .u32 b, .slice A es.length c], .slice B l.length d, .int .i64 cut] w fun e w' => e = .returned (.bool true) ∧ Below w.heap.size w w' := by
  have HR := Aside0.mk hr
  have HRB := Aside0.mk hrb
  have HBY := Aside0.mk hb
  have HO : Aside0 (bramblelaw16_own.f f t b es = some (f, t, b, es)) := ⟨by simp [bramblelaw16_own.f, hel]⟩
  have HG := Aside0.mk hg
  have HE : Aside0 (decV (encV f t b es) = some (f, t, b, es)) := ⟨dec_enc hg q0 q1⟩
  have HEB : Aside0 (∀ x ∈ encV f t b es, 0 ≤ x ∧ x < 256) := ⟨enc_bytes hg q0 q1⟩
  have HLESS : Aside0 (∀ n, n < (encV f t b es).length → decV ((encV f t b es).take n) = none) := ⟨fun n h => dec_less hg q0 q1 h⟩
  have HMORE : Aside0 (∀ y, 0 ≤ y ∧ y < 256 → decV (encV f t b es ++ [y]) = none) := ⟨fun y h => dec_more hg q0 q1 h⟩
  have HLEN : Aside0 ((encV f t b es).length < 100000) := ⟨enc_len hg⟩
  have hpos : 0 < (encV f t b es).length := by simp [encV]
  generalize hx : encV f t b es = x at HE HEB HLESS HMORE HLEN hpos
  have HX := Aside0.mk hx
  have hpos1 : ((x.length : Int) == 0) = false := by rw [beq_eq_false_iff_ne]; omega
  have HSAME := Aside0.mk (same_f f t b es (by omega))
  clear hr hrb hb hg hx
  go_enter Try.func5, Try.ntmps5
  go_upto_region 6 with (first
    | (go_at_call 7; refine (awake_calls _).mono ?_; rintro e w1 ⟨rfl, hb1⟩; have HB1 := Aside0.mk (((Below.refl _ _).alloc (Nat.le_refl _) _).trans (hb1.mono (by simp))); have HK1 : Aside0 (w1.heap[w.heap.size]? = some (.cells #[.int .i64 f, .int .i64 t, .int .u32 b, .slice A es.length c] 25 (0, 0))) := ⟨(hb1.block _ (by simp)).trans (heap_alloc_new w _)⟩; clear hb1; have c1_0 : w1.cell? ⟨w.heap.size, 0, none⟩ = some (.int .i64 f) := (blk_cell HK1.out 0).trans rfl; have c1_1 : w1.cell? ⟨w.heap.size, 1, none⟩ = some (.int .i64 t) := (blk_cell HK1.out 1).trans rfl; have c1_2 : w1.cell? ⟨w.heap.size, 2, none⟩ = some (.int .u32 b) := (blk_cell HK1.out 2).trans rfl; have c1_3 : w1.cell? ⟨w.heap.size, 3, none⟩ = some (.slice A es.length c) := (blk_cell HK1.out 3).trans rfl)
    | (go_at_call 9; go_must (refine (bramblelaw16_own.calls f t b A c es f t b es w1 (Kd.C_below HR.out HB1.out) hc HO.out).mono ?_); rintro e w2 ⟨v2, rfl, hr2, hb2⟩; have HB2 := Aside0.mk (below_step HB1.out hb2); have HB12 := Aside0.mk hb2; obtain ⟨A2, c2, rfl, hc2, hr2'⟩ := Kd.R_reads hr2; have HR2 := Aside0.mk hr2'; clear hr2 hb2 hr2')
    | (go_at_call 8; go_must (refine (enc_ok f t b A2 c2 es w2 HR2.out HG.out ⟨q0, q1⟩).mono ?_); rintro e w3 ⟨v3, rfl, hr3, hb3⟩; rw [HX.out] at hr3; have HB3 := Aside0.mk (below_step HB2.out hb3); have HK3 := Aside0.mk (blk_below (blk_below HK1.out HB12.out) hb3); obtain ⟨A3, c3, rfl, hc3, hr3'⟩ := Kd.R_reads hr3; have HR3 := Aside0.mk hr3'; have HC3 := Aside0.mk hc3; clear hb3 hr3 hr3' hc3)
    | (go_at_call 12; go_must (refine (dec_calls A3 c3 x w3 HR3.out HC3.out HEB.out).mono ?_); intro e w4 hq; obtain ⟨hb4, he, _⟩ := hq; obtain ⟨v4, rfl, hr4⟩ := he _ _ _ _ HE.out; obtain ⟨A4, c4, rfl, hc4, hr4'⟩ := Kd.R_reads hr4; have HR4 := Aside0.mk hr4'; have HC4 := Aside0.mk hc4; have HB4 := Aside0.mk (below_step HB3.out hb4); have HK4 := Aside0.mk (blk_below HK3.out hb4); have HX4 := Aside0.mk (Kd.C_below HR3.out hb4); clear he hb4 hr4 hr4' hc4))
  have HB5 := Aside0.mk (below_alloc HB4.out (.cells #[.int .i64 f, .int .i64 t, .int .u32 b, .slice A4 es.length c4] 25))
  have BK5 := Aside0.mk (blk_new w4 (.cells #[.int .i64 f, .int .i64 t, .int .u32 b, .slice A4 es.length c4] 25))
  have HK5 := Aside0.mk (blk_alloc HK4.out (.cells #[.int .i64 f, .int .i64 t, .int .u32 b, .slice A4 es.length c4] 25))
  have HR5 := Aside0.mk (Kd.C_alloc HR4.out (.cells #[.int .i64 f, .int .i64 t, .int .u32 b, .slice A4 es.length c4] 25))
  have HX5 := Aside0.mk (Kd.C_alloc HX4.out (.cells #[.int .i64 f, .int .i64 t, .int .u32 b, .slice A4 es.length c4] 25))
  generalize w4.alloc (.cells #[.int .i64 f, .int .i64 t, .int .u32 b, .slice A4 es.length c4] 25) = w5 at *
  have x0 : w5.cell? ⟨w4.heap.size, 0, none⟩ = some (.int .i64 f) := (blk_cell BK5.out 0).trans rfl
  have x1 : w5.cell? ⟨w4.heap.size, 1, none⟩ = some (.int .i64 t) := (blk_cell BK5.out 1).trans rfl
  have x2 : w5.cell? ⟨w4.heap.size, 2, none⟩ = some (.int .u32 b) := (blk_cell BK5.out 2).trans rfl
  have x3 : w5.cell? ⟨w4.heap.size, 3, none⟩ = some (.slice A4 es.length c4) := (blk_cell BK5.out 3).trans rfl
  have y0 : w5.cell? ⟨w.heap.size, 0, none⟩ = some (.int .i64 f) := (blk_cell HK5.out 0).trans rfl
  have y1 : w5.cell? ⟨w.heap.size, 1, none⟩ = some (.int .i64 t) := (blk_cell HK5.out 1).trans rfl
  have y2 : w5.cell? ⟨w.heap.size, 2, none⟩ = some (.int .u32 b) := (blk_cell HK5.out 2).trans rfl
  have y3 : w5.cell? ⟨w.heap.size, 3, none⟩ = some (.slice A es.length c) := (blk_cell HK5.out 3).trans rfl
  go_upto_region 8 with (first
    | (go_at_call 14; go_must (refine (PWitnessDecodes.brambleref16_Same.calls (es.length + 5) f t b A4 c4 es f t b A c es true w5 HR5.out HC4.out (Kd.C_below HR.out HB5.out) hc HSAME.out).mono ?_); rintro e w6 ⟨rfl, hb6⟩; have HB6 := Aside0.mk (below_step HB5.out hb6); have HX6 := Aside0.mk (Kd.C_below HX5.out hb6); clear hb6))
  obtain ⟨n, hn, hnx⟩ := rem_nat cut x.length hpos (by have := HR3.out.2.1; omega)
  have hz : ¬ IntKind.u64.wrap (x.length : Int) = 0 := by have := HR3.out.2.1; simp [IntKind.wrap, IntKind.bits, IntKind.signed]; omega
  go_upto_region 9 with (fail)
  have hlen : (x.take n).length = n := by simp; omega
  have HTK : Aside0 (Calls Try.prog 12 #[.slice A3 n c3] w6 (DecQ w6 (x.take n))) := ⟨by
    have h := dec_calls A3 c3 (x.take n) w6 (Kd.C_take HX6.out (by omega)) (by have := HC3.out; omega) (fun y hy => HEB.out y (List.mem_of_mem_take hy))
    rw [hlen] at h
    exact h⟩
  have hn0 : (0 : Int) ≤ n := by omega
  have hn1 : ¬ ((c3 : Nat) : Int) < n := by have := HC3.out; omega
  have HNO := Aside0.mk (HLESS.out n hnx)
  try rw [hn]
  go_upto_region 10 with (first
    | (go_at_call 12; go_must (refine HTK.out.mono ?_); intro e w7 hq; obtain ⟨hb7, _, he⟩ := hq; obtain rfl := he HNO.out; have HB7 := Aside0.mk (below_step HB6.out hb7); have HX7 := Aside0.mk (Kd.C_below HX6.out hb7); clear he hb7))
  have HDEC : ∃ er : Int, Aside0 (∀ (W : World) (A : Option Addr) (c : Nat), Kd.C (Kd.int .u8) W A (x ++ l.take 1).length (x ++ l.take 1) → (x ++ l.take 1).length ≤ c → Calls Try.prog 12 #[.slice A (x ++ l.take 1).length c] W fun e w' => Below W.heap.size W w' ∧ ∃ (f t b : Int) (A9 : Option Addr) (n9 c9 : Nat), e = .returned (.tuple #[.agg #[.int .i64 f, .int .i64 t, .int .u32 b, .slice A9 n9 c9], .int .i64 er])) ∧ ((er == 0) != ((l.length : Int) == 0)) = false := by
    cases l with
    | nil => exact ⟨0, ⟨dec_any _ 0 (.inl ⟨f, t, b, es, by simpa using HE.out, rfl⟩) (by simpa using HEB.out)⟩, by simp⟩
    | cons y r =>
      have hy := HBY.out y (by simp)
      refine ⟨160, ⟨dec_any _ 160 (.inr ⟨by simpa using HMORE.out y hy, rfl⟩) ?_⟩, ?_⟩
      · intro z hz
        rcases List.mem_append.1 hz with h | h
        · exact HEB.out z h
        · obtain rfl : z = y := by simpa using h
          exact hy
      · simp
        omega
  obtain ⟨er, HDEC, her⟩ := HDEC
  have her2 : (!((er == 0) == ((l.length : Int) == 0))) = false := her
  have hxs := HLEN.out
  have hxl := HX7.out.2.1
  have HC3' := HC3.out
  refine wp_region_noPanic ?_
  refine start_ (n := 16) (S := fun _ => True) (ds := [14]) #[false, false, false, false, false, false, false, false, false, false, false, false, false, false, false, false] (by kernel_rfl) rfl rfl trivial (fun hHeld => ?_)
  have HX8 := Aside0.mk (Kd.C_drew HX7.out)
  have HT8 : Aside0 (Kd.C (Kd.int .u8) w7.drew B (l.take 1).length (l.take 1)) := ⟨take1 (Kd.C_drew (Kd.C_below HRB.out HB7.out))⟩
  have HB8 := Aside0.mk (below_drew HB7.out)
  generalize w7.drew = w8 at HX8 HT8 HB8 ⊢
  refine pure_ (i := 1) (N := (some 61)) (v := ?_) (a' := ?_) #[false, true, false, false, false, false, false, false, false, false, false, false, false, false, false, false] rfl rfl (by kernel_rfl) (fun _ _ _ h => h) (Or.inl ⟨by rfl, ?_⟩) ?_ ?_
  rotate_left
  · intro w'
    go_simp
    with_reducible rfl
  rotate_left
  · simp only [Act.put, List.setIfInBounds_toArray, List.set_cons_zero, List.set_cons_succ]
    rfl
  refine pure_ (i := 3) (N := (some 63)) (v := ?_) (a' := ?_) #[false, true, false, true, false, false, false, false, false, false, false, false, false, false, false, false] rfl rfl (by kernel_rfl) (fun _ _ _ h => h) (Or.inl ⟨by rfl, ?_⟩) ?_ ?_
  rotate_left
  · intro w'
    go_simp
    with_reducible rfl
  rotate_left
  · simp only [Act.put, List.setIfInBounds_toArray, List.set_cons_zero, List.set_cons_succ]
    rfl
  refine pure_ (i := 4) (N := (some 64)) (v := ?_) (a' := ?_) #[false, true, false, true, true, false, false, false, false, false, false, false, false, false, false, false] rfl rfl (by kernel_rfl) (fun _ _ _ h => h) (Or.inl ⟨by rfl, ?_⟩) ?_ ?_
  rotate_left
  · intro w'
    go_simp
    with_reducible rfl
  rotate_left
  · simp only [Act.put, List.setIfInBounds_toArray, List.set_cons_zero, List.set_cons_succ]
    rfl
  refine pure_ (i := 5) (N := (some 65)) (v := ?_) (a' := ?_) #[false, true, false, true, true, true, false, false, false, false, false, false, false, false, false, false] rfl rfl (by kernel_rfl) (fun _ _ _ h => h) (Or.inl ⟨by rfl, ?_⟩) ?_ ?_
  rotate_left
  · intro w'
    go_simp
    with_reducible rfl
  rotate_left
  · simp only [Act.put, List.setIfInBounds_toArray, List.set_cons_zero, List.set_cons_succ]
    rfl
  refine pure_ (i := 6) (N := (some 66)) (v := .int .i64 ((l.take 1).length : Int)) (a' := ?_) #[false, true, false, true, true, true, true, false, false, false, false, false, false, false, false, false] rfl rfl (by kernel_rfl) (fun _ _ _ h => h) (Or.inl ⟨by rfl, ?_⟩) ?_ ?_
  · intro w'
    go_simp
    split <;> omega
  rotate_left
  · simp only [Act.put, List.setIfInBounds_toArray, List.set_cons_zero, List.set_cons_succ]
    rfl
  refine pure_ (i := 7) (N := (some 67)) (v := .slice B (l.take 1).length d) (a' := ?_) #[false, true, false, true, true, true, true, true, false, false, false, false, false, false, false, false] rfl rfl (by kernel_rfl) (fun _ _ _ h => h) (Or.inl ⟨by rfl, ?_⟩) ?_ ?_
  · intro w'
    go_simp
    intro h
    omega
  rotate_left
  · simp only [Act.put, List.setIfInBounds_toArray, List.set_cons_zero, List.set_cons_succ]
    rfl
  refine join_ (σ := Nat × Value × Value × Option Addr × Nat × Int × Int × Int × Option Addr × Nat × Nat) 2 #[true, true, true, true, true, true, true, true, true, true, true, true, true, true, false, false] (fun s => [(12, .pointer (some ⟨s.1, 0, none⟩)), (60, s.2.1), (62, s.2.2.1), (68, .slice s.2.2.2.1 (x ++ l.take 1).length s.2.2.2.2.1), (69, .tuple #[.agg #[.int .i64 s.2.2.2.2.2.1, .int .i64 s.2.2.2.2.2.2.1, .int .u32 s.2.2.2.2.2.2.2.1, .slice s.2.2.2.2.2.2.2.2.1 s.2.2.2.2.2.2.2.2.2.1 s.2.2.2.2.2.2.2.2.2.2], .int .i64 er]), (59, .tuple #[.agg #[.int .i64 s.2.2.2.2.2.1, .int .i64 s.2.2.2.2.2.2.1, .int .u32 s.2.2.2.2.2.2.2.1, .slice s.2.2.2.2.2.2.2.2.1 s.2.2.2.2.2.2.2.2.2.1 s.2.2.2.2.2.2.2.2.2.2], .int .i64 er]), (70, .agg #[.int .i64 s.2.2.2.2.2.1, .int .i64 s.2.2.2.2.2.2.1, .int .u32 s.2.2.2.2.2.2.2.1, .slice s.2.2.2.2.2.2.2.2.1 s.2.2.2.2.2.2.2.2.2.1 s.2.2.2.2.2.2.2.2.2.2]), (71, .int .i64 er)]) (fun s W => Below w8.heap.size w8 W ∧ w8.heap.size ≤ s.1 ∧ W.heap[s.1]? = some (.cells #[.int .i64 0, .int .i64 0, .int .u32 0, .slice none 0 0] 25 (0, 0))) ?_ ?_
  rotate_left
  · intro hJ4d
    refine join_ (σ := Nat × Value × Value × Option Addr × Nat) 6 #[true, true, true, true, true, true, true, true, true, false, false, false, false, true, false, false] (fun s => [(12, .pointer (some ⟨s.1, 0, none⟩)), (60, s.2.1), (62, s.2.2.1), (68, .slice s.2.2.2.1 (x ++ l.take 1).length s.2.2.2.2)]) (fun s W => Below w8.heap.size w8 W ∧ w8.heap.size ≤ s.1 ∧ W.heap[s.1]? = some (.cells #[.int .i64 0, .int .i64 0, .int .u32 0, .slice none 0 0] 25 (0, 0)) ∧ Kd.C (Kd.int .u8) W s.2.2.2.1 (x ++ l.take 1).length (x ++ l.take 1) ∧ (x ++ l.take 1).length ≤ s.2.2.2.2) ?_ ?_
    rotate_left
    · intro hJ3d
      refine join_ (σ := Nat × Value × Value) 7 #[true, true, true, true, true, true, true, true, false, false, false, false, false, true, false, false] (fun s => [(12, .pointer (some ⟨s.1, 0, none⟩)), (60, s.2.1), (62, s.2.2)]) (fun s W => Below w8.heap.size w8 W ∧ w8.heap.size ≤ s.1 ∧ W.heap[s.1]? = some (.cells #[.int .i64 0, .int .i64 0, .int .u32 0, .slice none 0 0] 25 (0, 0)) ∧ Kd.R (Kd.int .u8) 5 W w8.heap.size (fun _ => True) s.2.2 x) ?_ ?_
      rotate_left
      · intro hJ2d
        refine join_ (σ := Nat × Value) 8 #[true, true, false, true, true, true, true, true, false, false, false, false, false, true, false, false] (fun s => [(12, .pointer (some ⟨s.1, 0, none⟩)), (60, s.2)]) (fun s W => Below w8.heap.size w8 W ∧ w8.heap.size ≤ s.1 ∧ W.heap[s.1]? = some (.cells #[.int .i64 0, .int .i64 0, .int .u32 0, .slice none 0 0] 25 (0, 0)) ∧ Kd.R (Kd.int .u8) 5 W w8.heap.size (fun _ => True) s.2 []) ?_ ?_
        rotate_left
        · intro hJ1d
          refine join_ (σ := Nat) 9 #[false, true, false, true, true, true, true, true, false, false, false, false, false, true, false, false] (fun s => [(12, .pointer (some ⟨s, 0, none⟩))]) (fun s W => Below w8.heap.size w8 W ∧ w8.heap.size ≤ s ∧ W.heap[s]? = some (.cells #[.int .i64 0, .int .i64 0, .int .u32 0, .slice none 0 0] 25 (0, 0))) ?_ ?_
          rotate_left
          · intro hJ0d
            refine join_ (σ := Value × Value × Option Addr × Nat × Int × Int × Int × Option Addr × Nat × Nat) 3 #[true, true, true, true, true, true, true, true, true, true, true, true, true, false, false, false] (fun s => [(60, s.1), (62, s.2.1), (68, .slice s.2.2.1 (x ++ l.take 1).length s.2.2.2.1), (69, .tuple #[.agg #[.int .i64 s.2.2.2.2.1, .int .i64 s.2.2.2.2.2.1, .int .u32 s.2.2.2.2.2.2.1, .slice s.2.2.2.2.2.2.2.1 s.2.2.2.2.2.2.2.2.1 s.2.2.2.2.2.2.2.2.2], .int .i64 er]), (59, .tuple #[.agg #[.int .i64 s.2.2.2.2.1, .int .i64 s.2.2.2.2.2.1, .int .u32 s.2.2.2.2.2.2.1, .slice s.2.2.2.2.2.2.2.1 s.2.2.2.2.2.2.2.2.1 s.2.2.2.2.2.2.2.2.2], .int .i64 er]), (70, .agg #[.int .i64 s.2.2.2.2.1, .int .i64 s.2.2.2.2.2.1, .int .u32 s.2.2.2.2.2.2.1, .slice s.2.2.2.2.2.2.2.1 s.2.2.2.2.2.2.2.2.1 s.2.2.2.2.2.2.2.2.2]), (71, .int .i64 er)]) (fun s W => Below w8.heap.size w8 W) ?_ ?_
            rotate_left
            · intro hJ4u
              refine join_ (σ := Value × Value × Option Addr × Nat) 7 #[true, true, true, true, true, true, true, true, true, false, false, false, false, false, false, false] (fun s => [(60, s.1), (62, s.2.1), (68, .slice s.2.2.1 (x ++ l.take 1).length s.2.2.2)]) (fun s W => Below w8.heap.size w8 W ∧ Kd.C (Kd.int .u8) W s.2.2.1 (x ++ l.take 1).length (x ++ l.take 1) ∧ (x ++ l.take 1).length ≤ s.2.2.2) ?_ ?_
              rotate_left
              · intro hJ3u
                refine join_ (σ := Value × Value) 8 #[true, true, true, true, true, true, true, true, false, false, false, false, false, false, false, false] (fun s => [(60, s.1), (62, s.2)]) (fun s W => Below w8.heap.size w8 W ∧ Kd.R (Kd.int .u8) 5 W w8.heap.size (fun _ => True) s.2 x) ?_ ?_
                rotate_left
                · intro hJ2u
                  refine join_ (σ := Value) 9 #[true, true, false, true, true, true, true, true, false, false, false, false, false, false, false, false] (fun s => [(60, s)]) (fun s W => Below w8.heap.size w8 W ∧ Kd.R (Kd.int .u8) 5 W w8.heap.size (fun _ => True) s []) ?_ ?_
                  rotate_left
                  · intro hJ1u
                    refine two_ (i := 0) (j := 13) (Ni := some 60) (Nj := some 12) #[true, true, false, true, true, true, true, true, false, false, false, false, false, false, false, false] #[false, true, false, true, true, true, true, true, false, false, false, false, false, true, false, false] rfl rfl rfl rfl (by kernel_rfl) (by decide) (by decide) (fun K hK => ?_) (fun K hK => ?_)
                    · skip
                      refine Kd.R_lit_step (Kd.int .u8) (w0 := w8) w8.heap.size 5 (by rfl) rfl (xs := ([] : List Int)) (inner := []) (ok := fun _ => True) (okp := fun _ => True) (by first | (go_simp; done) | (go_simp; rfl)) (Reps.none _ _) (fun _ hk => hk) trivial (Below.refl _ _) (Nat.le_refl _) (by simp) ?_
                      intro u60 w1 ho hb1 hg hat
                      refine hK.out _ _ trivial (fun hHeld => ?_)
                      clear hK K
                      refine norm_ (a' := ?_) ?_ ?_
                      rotate_left
                      · show Act.put _ (some 60) _ = _
                        simp only [Act.put, List.setIfInBounds_toArray, List.set_cons_zero, List.set_cons_succ]
                        rfl
                      exact norm_ (by first | (simp only [putAll, Act.put, List.setIfInBounds_toArray, List.set_cons_zero, List.set_cons_succ]; done) | (simp only [putAll, Act.put, List.setIfInBounds_toArray, List.set_cons_zero, List.set_cons_succ]; rfl)) (hJ1u u60 _ ⟨hb1, ho⟩)
                    · skip
                      refine box_step (by rfl) rfl (cs := #[.int .i64 0, .int .i64 0, .int .u32 0, .slice none 0 0]) (t := 25) (by first | (go_simp; done) | (go_simp; rfl)) ?_
                      intro g hg w1 hk1 hbl
                      refine hK.out _ _ trivial (fun hHeld => ?_)
                      clear hK K
                      refine norm_ (a' := ?_) ?_ ?_
                      rotate_left
                      · show Act.put _ (some 12) _ = _
                        simp only [Act.put, List.setIfInBounds_toArray, List.set_cons_zero, List.set_cons_succ]
                        rfl
                      exact norm_ (by first | (simp only [putAll, Act.put, List.setIfInBounds_toArray, List.set_cons_zero, List.set_cons_succ]; done) | (simp only [putAll, Act.put, List.setIfInBounds_toArray, List.set_cons_zero, List.set_cons_succ]; rfl)) (hJ0d g _ ⟨below_step (Below.refl _ _) hbl, by rw [hg]; exact Nat.le_refl _, hk1⟩)
                  · skip
                    rintro u60 W ⟨hB, ho⟩
                    have HB := Aside0.mk hB
                    have Hho := Aside0.mk ho
                    clear hB ho
                    refine norm_ (a' := ?_) ?_ ?_
                    rotate_left
                    · simp only [putAll, Act.put, List.setIfInBounds_toArray, List.set_cons_zero, List.set_cons_succ]
                      rfl
                    refine two_ (i := 2) (j := 13) (Ni := some 62) (Nj := some 12) #[true, true, true, true, true, true, true, true, false, false, false, false, false, false, false, false] #[true, true, false, true, true, true, true, true, false, false, false, false, false, true, false, false] rfl rfl rfl rfl (by kernel_rfl) (by decide) (by decide) (fun K hK => ?_) (fun K hK => ?_)
                    · skip
                      refine Kd.R_append_rows_step (Kd.int .u8) (w0 := w8) w8.heap.size (by rfl) (.tmp 60) (.tmp 61) 27 5 (.int .u8 0) 1 rfl Try.underlying27 info5 rfl (by decide) (by omega) u60 [] x A3 x.length c3 (fun _ => True) (fun _ => False) rfl rfl Hho.out (Kd.C_below HX8.out HB.out) (fun _ _ h => h) (fun _ h => h.elim) (fun _ _ => trivial) HB.out HB.out.size (by simp; omega) ?_
                      intro u62 w1 ho hb1 hg hat
                      rw [List.nil_append] at ho
                      refine hK.out _ _ trivial (fun hHeld => ?_)
                      clear hK K
                      refine norm_ (a' := ?_) ?_ ?_
                      rotate_left
                      · show Act.put _ (some 62) _ = _
                        simp only [Act.put, List.setIfInBounds_toArray, List.set_cons_zero, List.set_cons_succ]
                        rfl
                      exact norm_ (by first | (simp only [putAll, Act.put, List.setIfInBounds_toArray, List.set_cons_zero, List.set_cons_succ]; done) | (simp only [putAll, Act.put, List.setIfInBounds_toArray, List.set_cons_zero, List.set_cons_succ]; rfl)) (hJ2u (u60, u62) _ ⟨hb1, ho⟩)
                    · skip
                      refine box_step (by rfl) rfl (cs := #[.int .i64 0, .int .i64 0, .int .u32 0, .slice none 0 0]) (t := 25) (by first | (go_simp; done) | (go_simp; rfl)) ?_
                      intro g hg w1 hk1 hbl
                      refine hK.out _ _ trivial (fun hHeld => ?_)
                      clear hK K
                      refine norm_ (a' := ?_) ?_ ?_
                      rotate_left
                      · show Act.put _ (some 12) _ = _
                        simp only [Act.put, List.setIfInBounds_toArray, List.set_cons_zero, List.set_cons_succ]
                        rfl
                      exact norm_ (by first | (simp only [putAll, Act.put, List.setIfInBounds_toArray, List.set_cons_zero, List.set_cons_succ]; done) | (simp only [putAll, Act.put, List.setIfInBounds_toArray, List.set_cons_zero, List.set_cons_succ]; rfl)) (hJ1d (g, u60) _ ⟨below_step HB.out hbl, by rw [hg]; exact HB.out.size, hk1, Kd.R_below Hho.out hbl⟩)
                · skip
                  rintro ⟨u60, u62⟩ W ⟨hB, ho⟩
                  have HB := Aside0.mk hB
                  have Hho := Aside0.mk ho
                  clear hB ho
                  refine norm_ (a' := ?_) ?_ ?_
                  rotate_left
                  · simp only [putAll, Act.put, List.setIfInBounds_toArray, List.set_cons_zero, List.set_cons_succ]
                    rfl
                  refine two_ (i := 8) (j := 13) (Ni := some 68) (Nj := some 12) #[true, true, true, true, true, true, true, true, true, false, false, false, false, false, false, false] #[true, true, true, true, true, true, true, true, false, false, false, false, false, true, false, false] rfl rfl rfl rfl (by kernel_rfl) (by decide) (by decide) (fun K hK => ?_) (fun K hK => ?_)
                  · skip
                    refine Kd.R_append_rows_step (Kd.int .u8) (w0 := w8) w8.heap.size (by rfl) (.tmp 62) (.tmp 67) 27 5 (.int .u8 0) 1 rfl Try.underlying27 info5 rfl (by decide) (by omega) u62 x (l.take 1) B (l.take 1).length d (fun _ => True) (fun _ => False) rfl rfl Hho.out (Kd.C_below HT8.out HB.out) (fun _ _ h => h) (fun _ h => h.elim) (fun _ _ => trivial) HB.out HB.out.size (by simp; omega) ?_
                    intro v68 w1 ho hb1 hg hat
                    obtain ⟨A8, c8, rfl, hc8, hC⟩ := Kd.R_reads ho
                    refine hK.out _ _ trivial (fun hHeld => ?_)
                    clear hK K
                    refine norm_ (a' := ?_) ?_ ?_
                    rotate_left
                    · show Act.put _ (some 68) _ = _
                      simp only [Act.put, List.setIfInBounds_toArray, List.set_cons_zero, List.set_cons_succ]
                      rfl
                    exact norm_ (by first | (simp only [putAll, Act.put, List.setIfInBounds_toArray, List.set_cons_zero, List.set_cons_succ]; done) | (simp only [putAll, Act.put, List.setIfInBounds_toArray, List.set_cons_zero, List.set_cons_succ]; rfl)) (hJ3u (u60, u62, A8, c8) _ ⟨hb1, hC, hc8⟩)
                  · skip
                    refine box_step (by rfl) rfl (cs := #[.int .i64 0, .int .i64 0, .int .u32 0, .slice none 0 0]) (t := 25) (by first | (go_simp; done) | (go_simp; rfl)) ?_
                    intro g hg w1 hk1 hbl
                    refine hK.out _ _ trivial (fun hHeld => ?_)
                    clear hK K
                    refine norm_ (a' := ?_) ?_ ?_
                    rotate_left
                    · show Act.put _ (some 12) _ = _
                      simp only [Act.put, List.setIfInBounds_toArray, List.set_cons_zero, List.set_cons_succ]
                      rfl
                    exact norm_ (by first | (simp only [putAll, Act.put, List.setIfInBounds_toArray, List.set_cons_zero, List.set_cons_succ]; done) | (simp only [putAll, Act.put, List.setIfInBounds_toArray, List.set_cons_zero, List.set_cons_succ]; rfl)) (hJ2d (g, u60, u62) _ ⟨below_step HB.out hbl, by rw [hg]; exact HB.out.size, hk1, Kd.R_below Hho.out hbl⟩)
              · skip
                rintro ⟨u60, u62, A8, c8⟩ W ⟨hB, hC, hc8⟩
                have HB := Aside0.mk hB
                have HhC := Aside0.mk hC
                have Hhc8 := Aside0.mk hc8
                clear hB hC hc8
                refine norm_ (a' := ?_) ?_ ?_
                rotate_left
                · simp only [putAll, Act.put, List.setIfInBounds_toArray, List.set_cons_zero, List.set_cons_succ]
                  rfl
                refine two_ (i := 9) (j := 13) (Ni := some 69) (Nj := some 12) #[true, true, true, true, true, true, true, true, true, true, false, false, false, false, false, false] #[true, true, true, true, true, true, true, true, true, false, false, false, false, true, false, false] rfl rfl rfl rfl (by kernel_rfl) (by decide) (by decide) (fun K hK => ?_) (fun K hK => ?_)
                · skip
                  refine goes_ Try.func12 (by kernel_rfl) rfl #[.slice A8 (x ++ l.take 1).length c8] (by rfl) rfl rfl (by (try simp only [List.map_toArray, List.map_cons, List.map_nil]); first | done | rfl) ?_
                  refine (HDEC.out W A8 c8 HhC.out Hhc8.out).mono ?_
                  rintro e w1 ⟨hb1, f9, t9, b9, A9, n9, c9, rfl⟩
                  refine ⟨_, rfl, ?_⟩
                  refine hK.out _ _ trivial (fun hHeld => ?_)
                  clear hK K
                  refine norm_ (a' := ?_) ?_ ?_
                  rotate_left
                  · show Act.put _ (some 69) _ = _
                    simp only [Act.put, List.setIfInBounds_toArray, List.set_cons_zero, List.set_cons_succ]
                    rfl
                  refine pure_ (i := 10) (N := (some 59)) (v := ?_) (a' := ?_) #[true, true, true, true, true, true, true, true, true, true, true, false, false, false, false, false] rfl rfl (by kernel_rfl) (fun _ _ _ h => h) (Or.inl ⟨by rfl, ?_⟩) ?_ ?_
                  rotate_left
                  · intro w'
                    go_simp
                    with_reducible rfl
                  rotate_left
                  · simp only [Act.put, List.setIfInBounds_toArray, List.set_cons_zero, List.set_cons_succ]
                    rfl
                  refine pure_ (i := 11) (N := (some 70)) (v := ?_) (a' := ?_) #[true, true, true, true, true, true, true, true, true, true, true, true, false, false, false, false] rfl rfl (by kernel_rfl) (fun _ _ _ h => h) (Or.inl ⟨by rfl, ?_⟩) ?_ ?_
                  rotate_left
                  · intro w'
                    go_simp
                    with_reducible rfl
                  rotate_left
                  · simp only [Act.put, List.setIfInBounds_toArray, List.set_cons_zero, List.set_cons_succ]
                    rfl
                  refine pure_ (i := 12) (N := (some 71)) (v := ?_) (a' := ?_) #[true, true, true, true, true, true, true, true, true, true, true, true, true, false, false, false] rfl rfl (by kernel_rfl) (fun _ _ _ h => h) (Or.inl ⟨by rfl, ?_⟩) ?_ ?_
                  rotate_left
                  · intro w'
                    go_simp
                    with_reducible rfl
                  rotate_left
                  · simp only [Act.put, List.setIfInBounds_toArray, List.set_cons_zero, List.set_cons_succ]
                    rfl
                  exact norm_ (by first | (simp only [putAll, Act.put, List.setIfInBounds_toArray, List.set_cons_zero, List.set_cons_succ]; done) | (simp only [putAll, Act.put, List.setIfInBounds_toArray, List.set_cons_zero, List.set_cons_succ]; rfl)) (hJ4u (u60, u62, A8, c8, f9, t9, b9, A9, n9, c9) _ (below_step HB.out hb1))
                · skip
                  refine box_step (by rfl) rfl (cs := #[.int .i64 0, .int .i64 0, .int .u32 0, .slice none 0 0]) (t := 25) (by first | (go_simp; done) | (go_simp; rfl)) ?_
                  intro g hg w1 hk1 hbl
                  refine hK.out _ _ trivial (fun hHeld => ?_)
                  clear hK K
                  refine norm_ (a' := ?_) ?_ ?_
                  rotate_left
                  · show Act.put _ (some 12) _ = _
                    simp only [Act.put, List.setIfInBounds_toArray, List.set_cons_zero, List.set_cons_succ]
                    rfl
                  exact norm_ (by first | (simp only [putAll, Act.put, List.setIfInBounds_toArray, List.set_cons_zero, List.set_cons_succ]; done) | (simp only [putAll, Act.put, List.setIfInBounds_toArray, List.set_cons_zero, List.set_cons_succ]; rfl)) (hJ3d (g, u60, u62, A8, c8) _ ⟨below_step HB.out hbl, by rw [hg]; exact HB.out.size, hk1, Kd.C_below HhC.out hbl, Hhc8.out⟩)
            · skip
              rintro ⟨u60, u62, A8, c8, f9, t9, b9, A9, n9, c9⟩ W hB
              have HB := Aside0.mk hB
              clear hB 
              refine norm_ (a' := ?_) ?_ ?_
              rotate_left
              · simp only [putAll, Act.put, List.setIfInBounds_toArray, List.set_cons_zero, List.set_cons_succ]
                rfl
              refine one_ (i := 13) (N := some 12) #[true, true, true, true, true, true, true, true, true, true, true, true, true, true, false, false] rfl rfl (by kernel_rfl) (by decide) (fun K hK => ?_)
              refine box_step (by rfl) rfl (cs := #[.int .i64 0, .int .i64 0, .int .u32 0, .slice none 0 0]) (t := 25) (by first | (go_simp; done) | (go_simp; rfl)) ?_
              intro g hg w1 hk1 hbl
              refine hK.out _ _ trivial (fun hHeld => ?_)
              clear hK K
              refine norm_ (a' := ?_) ?_ ?_
              rotate_left
              · show Act.put _ (some 12) _ = _
                simp only [Act.put, List.setIfInBounds_toArray, List.set_cons_zero, List.set_cons_succ]
                rfl
              exact norm_ (by first | (simp only [putAll, Act.put, List.setIfInBounds_toArray, List.set_cons_zero, List.set_cons_succ]; done) | (simp only [putAll, Act.put, List.setIfInBounds_toArray, List.set_cons_zero, List.set_cons_succ]; rfl)) (hJ4d (g, u60, u62, A8, c8, f9, t9, b9, A9, n9, c9) _ ⟨below_step HB.out hbl, by rw [hg]; exact HB.out.size, hk1⟩)
          · skip
            rintro g W ⟨hB, hge, hk⟩
            have HB := Aside0.mk hB
            have Hhge := Aside0.mk hge
            have Hhk := Aside0.mk hk
            clear hB hge hk
            refine norm_ (a' := ?_) ?_ ?_
            rotate_left
            · simp only [putAll, Act.put, List.setIfInBounds_toArray, List.set_cons_zero, List.set_cons_succ]
              rfl
            refine one_ (i := 0) (N := some 60) #[true, true, false, true, true, true, true, true, false, false, false, false, false, true, false, false] rfl rfl (by kernel_rfl) (by decide) (fun K hK => ?_)
            refine Kd.R_lit_step (Kd.int .u8) (w0 := w8) w8.heap.size 5 (by rfl) rfl (xs := ([] : List Int)) (inner := []) (ok := fun _ => True) (okp := fun _ => True) (by first | (go_simp; done) | (go_simp; rfl)) (Reps.none _ _) (fun _ hk => hk) trivial HB.out HB.out.size (by simp) ?_
            intro u60 w1 ho hb1 hg hat
            refine hK.out _ _ trivial (fun hHeld => ?_)
            clear hK K
            refine norm_ (a' := ?_) ?_ ?_
            rotate_left
            · show Act.put _ (some 60) _ = _
              simp only [Act.put, List.setIfInBounds_toArray, List.set_cons_zero, List.set_cons_succ]
              rfl
            exact norm_ (by first | (simp only [putAll, Act.put, List.setIfInBounds_toArray, List.set_cons_zero, List.set_cons_succ]; done) | (simp only [putAll, Act.put, List.setIfInBounds_toArray, List.set_cons_zero, List.set_cons_succ]; rfl)) (hJ1d (g, u60) _ ⟨hb1, Hhge.out, blk_grown Hhk.out hg (by simp), ho⟩)
        · skip
          rintro ⟨g, u60⟩ W ⟨hB, hge, hk, ho⟩
          have HB := Aside0.mk hB
          have Hhge := Aside0.mk hge
          have Hhk := Aside0.mk hk
          have Hho := Aside0.mk ho
          clear hB hge hk ho
          refine norm_ (a' := ?_) ?_ ?_
          rotate_left
          · simp only [putAll, Act.put, List.setIfInBounds_toArray, List.set_cons_zero, List.set_cons_succ]
            rfl
          refine one_ (i := 2) (N := some 62) #[true, true, true, true, true, true, true, true, false, false, false, false, false, true, false, false] rfl rfl (by kernel_rfl) (by decide) (fun K hK => ?_)
          refine Kd.R_append_rows_step (Kd.int .u8) (w0 := w8) w8.heap.size (by rfl) (.tmp 60) (.tmp 61) 27 5 (.int .u8 0) 1 rfl Try.underlying27 info5 rfl (by decide) (by omega) u60 [] x A3 x.length c3 (fun _ => True) (fun _ => False) rfl rfl Hho.out (Kd.C_below HX8.out HB.out) (fun _ _ h => h) (fun _ h => h.elim) (fun _ _ => trivial) HB.out HB.out.size (by simp; omega) ?_
          intro u62 w1 ho hb1 hg hat
          rw [List.nil_append] at ho
          refine hK.out _ _ trivial (fun hHeld => ?_)
          clear hK K
          refine norm_ (a' := ?_) ?_ ?_
          rotate_left
          · show Act.put _ (some 62) _ = _
            simp only [Act.put, List.setIfInBounds_toArray, List.set_cons_zero, List.set_cons_succ]
            rfl
          exact norm_ (by first | (simp only [putAll, Act.put, List.setIfInBounds_toArray, List.set_cons_zero, List.set_cons_succ]; done) | (simp only [putAll, Act.put, List.setIfInBounds_toArray, List.set_cons_zero, List.set_cons_succ]; rfl)) (hJ2d (g, u60, u62) _ ⟨hb1, Hhge.out, blk_grown Hhk.out hg (Kd.R_ne Hho.out Hhk.out (by decide)), ho⟩)
      · skip
        rintro ⟨g, u60, u62⟩ W ⟨hB, hge, hk, ho⟩
        have HB := Aside0.mk hB
        have Hhge := Aside0.mk hge
        have Hhk := Aside0.mk hk
        have Hho := Aside0.mk ho
        clear hB hge hk ho
        refine norm_ (a' := ?_) ?_ ?_
        rotate_left
        · simp only [putAll, Act.put, List.setIfInBounds_toArray, List.set_cons_zero, List.set_cons_succ]
          rfl
        refine one_ (i := 8) (N := some 68) #[true, true, true, true, true, true, true, true, true, false, false, false, false, true, false, false] rfl rfl (by kernel_rfl) (by decide) (fun K hK => ?_)
        refine Kd.R_append_rows_step (Kd.int .u8) (w0 := w8) w8.heap.size (by rfl) (.tmp 62) (.tmp 67) 27 5 (.int .u8 0) 1 rfl Try.underlying27 info5 rfl (by decide) (by omega) u62 x (l.take 1) B (l.take 1).length d (fun _ => True) (fun _ => False) rfl rfl Hho.out (Kd.C_below HT8.out HB.out) (fun _ _ h => h) (fun _ h => h.elim) (fun _ _ => trivial) HB.out HB.out.size (by simp; omega) ?_
        intro v68 w1 ho hb1 hg hat
        obtain ⟨A8, c8, rfl, hc8, hC⟩ := Kd.R_reads ho
        refine hK.out _ _ trivial (fun hHeld => ?_)
        clear hK K
        refine norm_ (a' := ?_) ?_ ?_
        rotate_left
        · show Act.put _ (some 68) _ = _
          simp only [Act.put, List.setIfInBounds_toArray, List.set_cons_zero, List.set_cons_succ]
          rfl
        exact norm_ (by first | (simp only [putAll, Act.put, List.setIfInBounds_toArray, List.set_cons_zero, List.set_cons_succ]; done) | (simp only [putAll, Act.put, List.setIfInBounds_toArray, List.set_cons_zero, List.set_cons_succ]; rfl)) (hJ3d (g, u60, u62, A8, c8) _ ⟨hb1, Hhge.out, blk_grown Hhk.out hg (Kd.R_ne Hho.out Hhk.out (by decide)), hC, hc8⟩)
    · skip
      rintro ⟨g, u60, u62, A8, c8⟩ W ⟨hB, hge, hk, hC, hc8⟩
      have HB := Aside0.mk hB
      have Hhge := Aside0.mk hge
      have Hhk := Aside0.mk hk
      have HhC := Aside0.mk hC
      have Hhc8 := Aside0.mk hc8
      clear hB hge hk hC hc8
      refine norm_ (a' := ?_) ?_ ?_
      rotate_left
      · simp only [putAll, Act.put, List.setIfInBounds_toArray, List.set_cons_zero, List.set_cons_succ]
        rfl
      refine one_ (i := 9) (N := some 69) #[true, true, true, true, true, true, true, true, true, true, false, false, false, true, false, false] rfl rfl (by kernel_rfl) (by decide) (fun K hK => ?_)
      refine goes_ Try.func12 (by kernel_rfl) rfl #[.slice A8 (x ++ l.take 1).length c8] (by rfl) rfl rfl (by (try simp only [List.map_toArray, List.map_cons, List.map_nil]); first | done | rfl) ?_
      refine (HDEC.out W A8 c8 HhC.out Hhc8.out).mono ?_
      rintro e w1 ⟨hb1, f9, t9, b9, A9, n9, c9, rfl⟩
      refine ⟨_, rfl, ?_⟩
      refine hK.out _ _ trivial (fun hHeld => ?_)
      clear hK K
      refine norm_ (a' := ?_) ?_ ?_
      rotate_left
      · show Act.put _ (some 69) _ = _
        simp only [Act.put, List.setIfInBounds_toArray, List.set_cons_zero, List.set_cons_succ]
        rfl
      refine pure_ (i := 10) (N := (some 59)) (v := ?_) (a' := ?_) #[true, true, true, true, true, true, true, true, true, true, true, false, false, true, false, false] rfl rfl (by kernel_rfl) (fun _ _ _ h => h) (Or.inl ⟨by rfl, ?_⟩) ?_ ?_
      rotate_left
      · intro w'
        go_simp
        with_reducible rfl
      rotate_left
      · simp only [Act.put, List.setIfInBounds_toArray, List.set_cons_zero, List.set_cons_succ]
        rfl
      refine pure_ (i := 11) (N := (some 70)) (v := ?_) (a' := ?_) #[true, true, true, true, true, true, true, true, true, true, true, true, false, true, false, false] rfl rfl (by kernel_rfl) (fun _ _ _ h => h) (Or.inl ⟨by rfl, ?_⟩) ?_ ?_
      rotate_left
      · intro w'
        go_simp
        with_reducible rfl
      rotate_left
      · simp only [Act.put, List.setIfInBounds_toArray, List.set_cons_zero, List.set_cons_succ]
        rfl
      refine pure_ (i := 12) (N := (some 71)) (v := ?_) (a' := ?_) #[true, true, true, true, true, true, true, true, true, true, true, true, true, true, false, false] rfl rfl (by kernel_rfl) (fun _ _ _ h => h) (Or.inl ⟨by rfl, ?_⟩) ?_ ?_
      rotate_left
      · intro w'
        go_simp
        with_reducible rfl
      rotate_left
      · simp only [Act.put, List.setIfInBounds_toArray, List.set_cons_zero, List.set_cons_succ]
        rfl
      exact norm_ (by first | (simp only [putAll, Act.put, List.setIfInBounds_toArray, List.set_cons_zero, List.set_cons_succ]; done) | (simp only [putAll, Act.put, List.setIfInBounds_toArray, List.set_cons_zero, List.set_cons_succ]; rfl)) (hJ4d (g, u60, u62, A8, c8, f9, t9, b9, A9, n9, c9) _ ⟨below_step HB.out hb1, Hhge.out, blk_below Hhk.out hb1⟩)
  rintro ⟨g, u60, u62, A8, c8, f9, t9, b9, A9, n9, c9⟩ W ⟨hB, hge, hk⟩
  have HB := Aside0.mk hB
  have Hhge := Aside0.mk hge
  have Hhk := Aside0.mk hk
  clear hB hge hk
  refine norm_ (a' := ?_) ?_ ?_
  rotate_left
  · simp only [putAll, Act.put, List.setIfInBounds_toArray, List.set_cons_zero, List.set_cons_succ]
    rfl
  have x0 : W.cell? ⟨g, 0, none⟩ = some (.int .i64 0) := (blk_cell Hhk.out 0).trans rfl
  have x1 : W.cell? ⟨g, 1, none⟩ = some (.int .i64 0) := (blk_cell Hhk.out 1).trans rfl
  have x2 : W.cell? ⟨g, 2, none⟩ = some (.int .u32 0) := (blk_cell Hhk.out 2).trans rfl
  have x3 : W.cell? ⟨g, 3, none⟩ = some (.slice none 0 0) := (blk_cell Hhk.out 3).trans rfl
  have z0 := blk_frozen Hhk.out 0
  have z1 := blk_frozen Hhk.out 1
  have z2 := blk_frozen Hhk.out 2
  have z3 := blk_frozen Hhk.out 3
  refine last_ (i := 14) (N := none) #[true, true, true, true, true, true, true, true, true, true, true, true, true, true, true, false] rfl rfl (by kernel_rfl) (by decide) (fun K hK => ?_)
  refine skip_ (w1 := ?_) (by rfl) rfl ?_ ?_
  rotate_left
  · go_simp
    rfl
  refine hK.out _ _ ?_
  clear hK K
  refine pure_ (i := 15) (N := (some 13)) (v := ?_) (a' := ?_) #[true, true, true, true, true, true, true, true, true, true, true, true, true, true, true, true] rfl rfl (by kernel_rfl) (fun _ _ _ h => h) (Or.inl ⟨by rfl, ?_⟩) ?_ ?_
  rotate_left
  · intro w'
    go_simp
    with_reducible rfl
  rotate_left
  · simp only [Act.put, List.setIfInBounds_toArray, List.set_cons_zero, List.set_cons_succ]
    rfl
  refine done_ (by kernel_rfl) ?_
  refine NoPanic.normal ?_
  have GE : w.heap.size ≤ g := Nat.le_trans HB8.out.size Hhge.out
  have HB9 := Aside0.mk (below_set (j := 3) (v := .slice A9 n9 c9) (below_set (j := 2) (v := .int .u32 b9) (below_set (j := 1) (v := .int .i64 t9) (below_set (j := 0) (v := .int .i64 f9) (below_step HB8.out HB.out) GE) GE) GE) GE)
  generalize (((W.setCell ⟨g, 0, none⟩ (.int .i64 f9)).setCell ⟨g, 1, none⟩ (.int .i64 t9)).setCell ⟨g, 2, none⟩ (.int .u32 b9)).setCell ⟨g, 3, none⟩ (.slice A9 n9 c9) = w9 at HB9 ⊢
  clear x0 x1 x2 x3 z0 z1 z2 z3 c1_0 c1_1 c1_2 c1_3 y0 y1 y2 y3 hn0 hn1 hlen
  go_upto_region 13 with (fail)
  cases hdl : decV l with
  | none =>
    have HDL := Aside0.mk hdl
    clear hdl
    go_upto_region 15 with (first
      | ((with_reducible refine gate_dst (N := 83) rfl ?_); refine Kd.R_lit (Kd.int .u8) _ 5 ?hg (N := 83) ?hd (xs := ([] : List Int)) (inner := []) (ok := fun _ => True) (okp := fun _ => True) ?hr ?hp (fun _ hk => hk) trivial (Below.refl _ _) (Nat.le_refl _) (by simp) ?_; (case hd => rfl); (case hg => rfl); (case hr => first | (go_simp; done) | (go_simp; rfl)); (case hp => exact (Reps.none _ _)); intro v4 w4 ho hb hg_ hnew_; clear hg_ hnew_; have HO4 := Aside0.mk (Kd.R_lower ho HB9.out.size); have HB4 := Aside0.mk (below_step HB9.out hb); clear ho hb)
      | ((with_reducible refine gate_builtin (b := .append) (xs := #[.tmp 83, .tmp 84]) rfl ?_); at_builtin; refine Kd.R_append_rows (Kd.int .u8) (w0 := w) w.heap.size rfl (.tmp 83) (.tmp 84) 27 5 (.int .u8 0) 1 rfl Try.underlying27 info5 rfl (by decide) (by omega) v4 [] l _ _ _ (fun _ => True) (fun _ => False) rfl rfl ?aO ?aR (fun _ _ h => h) (fun _ h => h.elim) ?aF ?aB ?aS ?aL ?_; (case aR => exact (Kd.C_below HRB.out HB4.out)); (case aB => exact HB4.out); (case aF => exact (fun _ _ => trivial)); (case aO => exact HO4.out); (case aS => exact HB4.out.size); (case aL => simp; omega); intro v5 w5 ho hb hg hat; obtain ⟨A5, c5, rfl, hc5, hr5⟩ := Kd.R_reads ho; have HR5 := Aside0.mk hr5; have HC5 := Aside0.mk hc5; have HB5 := Aside0.mk hb; clear ho hb hg hat hr5 hc5)
      | (go_at_call 12; go_must (refine (dec_calls A5 c5 l w5 HR5.out HC5.out HBY.out).mono ?_); intro e w6 hq; obtain ⟨hb6, _, he⟩ := hq; obtain rfl := he HDL.out; have HB6 := Aside0.mk (below_step HB5.out hb6); clear he hb6))
    have HB7 := Aside0.mk (below_alloc HB6.out (.cells #[.int .i64 0, .int .i64 0, .int .u32 0, .slice none 0 0] 25))
    have BK7 := Aside0.mk (blk_new w6 (.cells #[.int .i64 0, .int .i64 0, .int .u32 0, .slice none 0 0] 25))
    generalize w6.alloc (.cells #[.int .i64 0, .int .i64 0, .int .u32 0, .slice none 0 0] 25) = w7 at *
    have x0 : w7.cell? ⟨w6.heap.size, 0, none⟩ = some (.int .i64 0) := (blk_cell BK7.out 0).trans rfl
    have x1 : w7.cell? ⟨w6.heap.size, 1, none⟩ = some (.int .i64 0) := (blk_cell BK7.out 1).trans rfl
    have x2 : w7.cell? ⟨w6.heap.size, 2, none⟩ = some (.int .u32 0) := (blk_cell BK7.out 2).trans rfl
    have x3 : w7.cell? ⟨w6.heap.size, 3, none⟩ = some (.slice none 0 0) := (blk_cell BK7.out 3).trans rfl
    have HSAME := Aside0.mk (same_f 0 0 0 [] (by simp))
    go_wp2_with (first
      | (go_at_call 14; go_must (refine (PWitnessDecodes.brambleref16_Same.calls (([] : List Int).length + 5) 0 0 0 none 0 [] 0 0 0 none 0 [] true w7 (Kd.C_nil _ _) (by simp) (Kd.C_nil _ _) (by simp) HSAME.out).mono ?_); rintro e w8 ⟨rfl, hb8⟩; have HB8 := Aside0.mk (below_step HB7.out hb8); clear hb8))
    go_ret
    exact ⟨rfl, HB8.out⟩
  | some y =>
    obtain ⟨f', t', b', es'⟩ := y
    obtain ⟨hle, hgd, q0, q1⟩ := enc_dec HBY.out hdl
    have HDL := Aside0.mk hdl
    have HLE := Aside0.mk hle
    have HGD := Aside0.mk hgd
    clear hdl hle hgd
    go_upto_region 16 with (first
      | ((with_reducible refine gate_dst (N := 83) rfl ?_); refine Kd.R_lit (Kd.int .u8) _ 5 ?hg (N := 83) ?hd (xs := ([] : List Int)) (inner := []) (ok := fun _ => True) (okp := fun _ => True) ?hr ?hp (fun _ hk => hk) trivial (Below.refl _ _) (Nat.le_refl _) (by simp) ?_; (case hd => rfl); (case hg => rfl); (case hr => first | (go_simp; done) | (go_simp; rfl)); (case hp => exact (Reps.none _ _)); intro v4 w4 ho hb hg_ hnew_; clear hg_ hnew_; have HO4 := Aside0.mk (Kd.R_lower ho HB9.out.size); have HB4 := Aside0.mk (below_step HB9.out hb); clear ho hb)
      | ((with_reducible refine gate_builtin (b := .append) (xs := #[.tmp 83, .tmp 84]) rfl ?_); at_builtin; refine Kd.R_append_rows (Kd.int .u8) (w0 := w) w.heap.size rfl (.tmp 83) (.tmp 84) 27 5 (.int .u8 0) 1 rfl Try.underlying27 info5 rfl (by decide) (by omega) v4 [] l _ _ _ (fun _ => True) (fun _ => False) rfl rfl ?aO ?aR (fun _ _ h => h) (fun _ h => h.elim) ?aF ?aB ?aS ?aL ?_; (case aR => exact (Kd.C_below HRB.out HB4.out)); (case aB => exact HB4.out); (case aF => exact (fun _ _ => trivial)); (case aO => exact HO4.out); (case aS => exact HB4.out.size); (case aL => simp; omega); intro v5 w5 ho hb hg hat; obtain ⟨A5, c5, rfl, hc5, hr5⟩ := Kd.R_reads ho; have HR5 := Aside0.mk hr5; have HC5 := Aside0.mk hc5; have HB5 := Aside0.mk hb; clear ho hb hg hat hr5 hc5)
      | (go_at_call 12; go_must (refine (dec_calls A5 c5 l w5 HR5.out HC5.out HBY.out).mono ?_); intro e w6 hq; obtain ⟨hb6, he, _⟩ := hq; obtain ⟨v6, rfl, hr6⟩ := he _ _ _ _ HDL.out; obtain ⟨A6, c6, rfl, hc6, hr6'⟩ := Kd.R_reads hr6; have HR6 := Aside0.mk hr6'; have HB6 := Aside0.mk (below_step HB5.out hb6); clear he hb6 hr6 hr6'))
    have HB7 := Aside0.mk (below_alloc HB6.out (.cells #[.int .i64 f', .int .i64 t', .int .u32 b', .slice A6 es'.length c6] 25))
    have BK7 := Aside0.mk (blk_new w6 (.cells #[.int .i64 f', .int .i64 t', .int .u32 b', .slice A6 es'.length c6] 25))
    have HR7 := Aside0.mk (Kd.C_alloc HR6.out (.cells #[.int .i64 f', .int .i64 t', .int .u32 b', .slice A6 es'.length c6] 25))
    generalize w6.alloc (.cells #[.int .i64 f', .int .i64 t', .int .u32 b', .slice A6 es'.length c6] 25) = w7 at *
    have x0 : w7.cell? ⟨w6.heap.size, 0, none⟩ = some (.int .i64 f') := (blk_cell BK7.out 0).trans rfl
    have x1 : w7.cell? ⟨w6.heap.size, 1, none⟩ = some (.int .i64 t') := (blk_cell BK7.out 1).trans rfl
    have x2 : w7.cell? ⟨w6.heap.size, 2, none⟩ = some (.int .u32 b') := (blk_cell BK7.out 2).trans rfl
    have x3 : w7.cell? ⟨w6.heap.size, 3, none⟩ = some (.slice A6 es'.length c6) := (blk_cell BK7.out 3).trans rfl
    have heq : ((strOfNums l).toList == (strOfNums l).toList) = true := by simp
    go_upto_region 17 with (first
      | (go_at_call 8; go_must (refine (enc_ok f' t' b' A6 c6 es' w7 HR7.out HGD.out ⟨q0, q1⟩).mono ?_); rintro e w8 ⟨v8, rfl, hr8, hb8⟩; rw [← HLE.out] at hr8; have hcv := own_string (src := 27) (dst := 9) Try.underlying27 Try.underlying5 Try.underlying9 (Kd.own_of_R hr8); have HB8 := Aside0.mk (below_step HB7.out hb8); have hcw := Kd.C_string (P := Try.prog) (A := B) (c := d) Try.underlying27 Try.underlying5 Try.underlying9 (Kd.C_below HRB.out HB8.out); clear hb8 hr8))
    go_wp2
    go_ret
    exact ⟨rfl, HB8.out⟩
end Go.Proofs.Ytfgoangcckiffaa.Lg
