/- This text proves Encode's walk: of a good witness it answers the one form's bytes in new memory, of another one nothing and the error. -/
import Derived.Test.YtfgoangcckiffaaEnc
import Derived.Deep.DeepMust
namespace Go.Proofs.Ytfgoangcckiffaa.EncW
open Go.RowKit Go.Proofs.YtfgoangcckiffaaW.PrintWords Go.Proofs.YtfgoangcckiffaaW.PrintLast Go.Proofs.YtfgoangcckiffaaW.PrintMore
open Go.Proofs.Ytfgoangcckiffaa.Good Go.Proofs.Ytfgoangcckiffaa.PWitnessEncodes Go.Proofs.Ytfgoangcckiffaa.Enc
set_option linter.unusedVariables false

theorem enc_bad (f t b : Int) (A : Option Addr) (c : Nat) (l : List Int) (w : World) (hr : Kd.C (Kd.int .i64) w A l.length l) (h : ¬ goodV f t l = 0) :
    Calls Try.prog 8 #[.agg #[.int .i64 f, .int .i64 t, .int .u32 b, .slice A l.length c]] w fun e w' => e = .returned (.tuple #[.slice none 0 0, .int .i64 (goodV f t l)]) ∧ Below w.heap.size w w' := by
  have HR := Aside0.mk hr
  clear hr
  have hb : (goodV f t l != 0) = true := by simpa using h
  generalize hg : goodV f t l = g at *
  have HG := Aside0.mk hg
  clear h hg
  go_enter Try.func8, Try.ntmps8
  go_wp2_with (go_at_call 15; refine (good_calls _ _ _ _ _ _ _ (Kd.C_below HR.out ((Below.refl _ _).alloc (Nat.le_refl _) _))).mono ?_; rw [HG.out]; rintro e w' ⟨rfl, hb1⟩; have HB := Aside0.mk hb1; clear hb1)
  go_ret2
  exact ⟨rfl, ((Below.refl _ _).alloc (Nat.le_refl _) _).trans (HB.out.mono (by simp))⟩

theorem put_c (P0 : Nat → Prop) (u : Value) (l : List Int) (n : Nat) (w0 w : World) (hB : Below w0.heap.size w0 w) (ho : Kd.R (Kd.int .u8) 5 w w0.heap.size P0 u l) (hn : n < 9223372036854775808) (hl : l.length < 1000000) (m : Int) (hm : m = n) :
    Calls Try.prog 16 #[u, .int .i64 m] w fun e w' => ∃ v, e = .returned v ∧ Kd.R (Kd.int .u8) 5 w' w0.heap.size (fun k => P0 k ∨ w.heap.size ≤ k) v (l ++ digs n) ∧ Below w0.heap.size w0 w' ∧ Kept w w' P0 := by
  subst hm
  exact vary_Put.calls 20 P0 u l n _ w0 w hB ho (put_f 8 n l 20 (by omega) (by omega) (by omega))

/-- Put, beside a box that stays -/
theorem put_b (w0 : World) (o : Obj) (u : Value) (l : List Int) (n : Nat) (W : World) (hB : Below w0.heap.size w0 W) (hk : W.heap[w0.heap.size]? = some o) (ho : Kd.R (Kd.int .u8) 5 W w0.heap.size (fun k => k ≠ w0.heap.size) u l)
    (hn : n < 9223372036854775808) (hl : l.length < 1000000) (m : Int) (hm : m = n) :
    Calls Try.prog 16 #[u, .int .i64 m] W fun e w' => ∃ v, e = .returned v ∧ Kd.R (Kd.int .u8) 5 w' w0.heap.size (fun k => k ≠ w0.heap.size) v (l ++ digs n) ∧ Below w0.heap.size w0 w' ∧ w'.heap[w0.heap.size]? = some o := by
  have hlt := blk_lt hk
  refine (put_c _ u l n w0 W hB ho hn hl m hm).mono ?_
  rintro e w' ⟨v, rfl, h1, h2, h3⟩
  refine ⟨v, rfl, Kd.R_mono h1 (fun k hk => ?_), h2, blk_kept hk h3 (by simp)⟩
  rcases hk with hk | hk
  · exact hk
  · omega

theorem enc_ok (f t b : Int) (A : Option Addr) (c : Nat) (l : List Int) (w : World) (hr : Kd.C (Kd.int .i64) w A l.length l) (h : goodV f t l = 0) (hb : 0 ≤ b ∧ b < 4294967296) :
    Calls Try.prog 8 #[.agg #[.int .i64 f, .int .i64 t, .int .u32 b, .slice A l.length c]] w fun e w' => ∃ v, e = .returned (.tuple #[v, .int .i64 0]) ∧ Kd.R (Kd.int .u8) 5 w' w.heap.size (fun _ => True) v (encV f t b l) ∧ Below w.heap.size w w' := by
  obtain ⟨hl, f0, f1, t0, t1, hi⟩ := good_ok h
  have he := Aside0.mk (idx_all l 0 (by omega) hi)
  clear hi
  have HR := Aside0.mk hr
  clear hr
  have hb' : (goodV f t l != 0) = false := by simp [h]
  have HG := Aside0.mk h
  clear h
  generalize hg : goodV f t l = g at *
  have HGG := Aside0.mk hg
  clear hg
  go_enter Try.func8, Try.ntmps8
  go_wp2_with (first | (go_at_call 15; refine (good_calls _ _ _ _ _ _ _ (Kd.C_below HR.out ((Below.refl _ _).alloc (Nat.le_refl _) _))).mono ?_; rw [HGG.out]; rintro e w1 ⟨rfl, hb1⟩; have HB := Aside0.mk hb1; clear hb1))
  have hs1 : w.heap.size < w1.heap.size := by have := HB.out.size; simp at this; omega
  have HK : Aside0 (w1.heap[w.heap.size]? = some (.cells #[.int .i64 f, .int .i64 t, .int .u32 b, .slice A l.length c] 25 (0, 0))) := ⟨(HB.out.block _ (by simp)).trans (heap_alloc_new w _)⟩
  have c0 : w1.cell? ⟨w.heap.size, 0, none⟩ = some (.int .i64 f) := (blk_cell HK.out 0).trans rfl
  have c1 : w1.cell? ⟨w.heap.size, 1, none⟩ = some (.int .i64 t) := (blk_cell HK.out 1).trans rfl
  have HBw : Aside0 (Below w.heap.size w w1) := ⟨((Below.refl _ _).alloc (Nat.le_refl _) _).trans (HB.out.mono (by simp))⟩
  clear HB
  have l1 := digs_len f.toNat 8 (by omega)
  have l2 := digs_len t.toNat 8 (by omega)
  go_region_held3 (fun w' => w'.cell? ⟨w.heap.size, 0, none⟩ = some (.int .i64 f) ∧ w'.cell? ⟨w.heap.size, 1, none⟩ = some (.int .i64 t)) (go_keep)
    (first
      | (go_at_call 16; (with_reducible refine (put_b w (.cells #[.int .i64 f, .int .i64 t, .int .u32 b, .slice A l.length c] 25 (0, 0)) (.slice (some ⟨w1.heap.size, 0, none⟩) 1 1) [183] f.toNat _ ?pb ?pk ?pr (by omega) (by simp) f (by omega)).mono ?_); (case pb => exact (HBw.out.alloc (by omega) _).drew); (case pk => exact (Below.heap_alloc w1 _ _ hs1).trans HK.out); (case pr => exact Kd.R_of_own (own_lit w1 w.heap.size 5 .u8 [183] (by omega) (by simp)) (by intro k hk; simp [Value.ownBlock] at hk; omega)); rintro e w2 ⟨v2, rfl, hr2, hb2, hk2⟩; have c0' : w2.cell? ⟨w.heap.size, 0, none⟩ = some (.int .i64 f) := (blk_cell hk2 0).trans rfl; have c1' : w2.cell? ⟨w.heap.size, 1, none⟩ = some (.int .i64 t) := (blk_cell hk2 1).trans rfl; have HR2 := Aside0.mk hr2; have HB2 := Aside0.mk hb2; have HK2 := Aside0.mk hk2; clear hr2 hb2 hk2)
      | (go_at_call 16; (with_reducible refine (put_b w (.cells #[.int .i64 f, .int .i64 t, .int .u32 b, .slice A l.length c] 25 (0, 0)) v2 ([183] ++ digs f.toNat) t.toNat _ HB2.out HK2.out HR2.out (by omega) (by simp; omega) t (by omega)).mono ?_); rintro e w3 ⟨v3, rfl, hr3, hb3, hk3⟩; have c0'' : w3.cell? ⟨w.heap.size, 0, none⟩ = some (.int .i64 f) := (blk_cell hk3 0).trans rfl; have c1'' : w3.cell? ⟨w.heap.size, 1, none⟩ = some (.int .i64 t) := (blk_cell hk3 1).trans rfl; have HR3 := Aside0.mk hr3; have HB3 := Aside0.mk hb3; have HK3 := Aside0.mk hk3; clear hr3 hb3 hk3))
  clear c0 c1 c0' c1' c0'' c1'' HR2 HB2 HK2 HK HBw hs1
  have HS : Aside0 (w.heap.size < w3.heap.size) := ⟨blk_lt HK3.out⟩
  go_wp2_with fail
  go_loopw [5, 21] (fun v i wr => ∃ k : Nat, k ≤ 4 ∧ i = .int .i64 k ∧ Aside0 (Kd.R (Kd.int .u8) 5 wr w.heap.size (fun k => k ≠ w.heap.size) v ([183] ++ digs f.toNat ++ digs t.toNat ++ (b4 b).take k)) ∧ Aside0 (Below w.heap.size w wr) ∧ Aside0 (wr.heap[w.heap.size]? = some (.cells #[.int .i64 f, .int .i64 t, .int .u32 b, .slice A l.length c] 25 (0, 0)))) (fun _ i _ => 4 - (intOf i).toNat)
  case atStart => exact ⟨0, by omega, rfl, ⟨by simpa using HR3.out⟩, HB3, HK3⟩
  case round =>
    clear HR3 HB3 HK3 HS
    obtain ⟨k, hk, rfl, HR3, HB3, HK3⟩ := hrel
    have c2 : wr.cell? ⟨w.heap.size, 2, none⟩ = some (.int .u32 b) := (blk_cell HK3.out 2).trans rfl
    by_cases hlt : k < 4
    · rcases (show k = 0 ∨ k = 1 ∨ k = 2 ∨ k = 3 by omega) with rfl | rfl | rfl | rfl
      · have HS3 : Aside0 (w.heap.size ≤ wr.heap.size) := ⟨Nat.le_of_lt (blk_lt HK3.out)⟩
        go_wp2_with (first | (at_builtin; go_must (refine Kd.R_append (Kd.int .u8) (w0 := w) w.heap.size rfl (.tmp 24) (.tmp 31) 27 5 (.int .u8 0) 1 rfl Try.underlying27 info5 rfl (by decide) (by omega) u5 _ (b % 256) [.int .u8 (b % 256)] (fun k => k ≠ w.heap.size) (fun _ => False) rfl rfl ?aP (fun _ hk => hk.elim) ?aF HR3.out HB3.out ?aS ?aL ?_); (case aP => exact rfl); (case aF => (intro k hk; have := blk_lt HK3.out; omega)); (case aS => exact HS3.out); (case aL => simp [b4]; omega); intro v4 w4 ho hb4 hg hat; have HR4 := Aside0.mk ho; have HB4 := Aside0.mk hb4; have HK4 : Aside0 (w4.heap[w.heap.size]? = _) := ⟨(hg.block _ (blk_lt HK3.out) (fun e => HR3.out.1 _ e.symm rfl)).trans HK3.out⟩; clear ho hb4 hg hat))
        go_roundw
        case measure => simp [intOf]
        case rel => exact ⟨1, by omega, by go_num, ⟨by simpa [b4] using HR4.out⟩, HB4, HK4⟩
      · have HS3 : Aside0 (w.heap.size ≤ wr.heap.size) := ⟨Nat.le_of_lt (blk_lt HK3.out)⟩
        go_wp2_with (first | (at_builtin; go_must (refine Kd.R_append (Kd.int .u8) (w0 := w) w.heap.size rfl (.tmp 24) (.tmp 31) 27 5 (.int .u8 0) 1 rfl Try.underlying27 info5 rfl (by decide) (by omega) u5 _ (b / 256 % 256) [.int .u8 (b / 256 % 256)] (fun k => k ≠ w.heap.size) (fun _ => False) rfl rfl ?aP (fun _ hk => hk.elim) ?aF HR3.out HB3.out ?aS ?aL ?_); (case aP => exact rfl); (case aF => (intro k hk; have := blk_lt HK3.out; omega)); (case aS => exact HS3.out); (case aL => simp [b4]; omega); intro v4 w4 ho hb4 hg hat; have HR4 := Aside0.mk ho; have HB4 := Aside0.mk hb4; have HK4 : Aside0 (w4.heap[w.heap.size]? = _) := ⟨(hg.block _ (blk_lt HK3.out) (fun e => HR3.out.1 _ e.symm rfl)).trans HK3.out⟩; clear ho hb4 hg hat))
        go_roundw
        case measure => simp [intOf]
        case rel => exact ⟨2, by omega, by go_num, ⟨by simpa [b4] using HR4.out⟩, HB4, HK4⟩
      · have HS3 : Aside0 (w.heap.size ≤ wr.heap.size) := ⟨Nat.le_of_lt (blk_lt HK3.out)⟩
        go_wp2_with (first | (at_builtin; go_must (refine Kd.R_append (Kd.int .u8) (w0 := w) w.heap.size rfl (.tmp 24) (.tmp 31) 27 5 (.int .u8 0) 1 rfl Try.underlying27 info5 rfl (by decide) (by omega) u5 _ (b / 65536 % 256) [.int .u8 (b / 65536 % 256)] (fun k => k ≠ w.heap.size) (fun _ => False) rfl rfl ?aP (fun _ hk => hk.elim) ?aF HR3.out HB3.out ?aS ?aL ?_); (case aP => exact rfl); (case aF => (intro k hk; have := blk_lt HK3.out; omega)); (case aS => exact HS3.out); (case aL => simp [b4]; omega); intro v4 w4 ho hb4 hg hat; have HR4 := Aside0.mk ho; have HB4 := Aside0.mk hb4; have HK4 : Aside0 (w4.heap[w.heap.size]? = _) := ⟨(hg.block _ (blk_lt HK3.out) (fun e => HR3.out.1 _ e.symm rfl)).trans HK3.out⟩; clear ho hb4 hg hat))
        go_roundw
        case measure => simp [intOf]
        case rel => exact ⟨3, by omega, by go_num, ⟨by simpa [b4] using HR4.out⟩, HB4, HK4⟩
      · have HS3 : Aside0 (w.heap.size ≤ wr.heap.size) := ⟨Nat.le_of_lt (blk_lt HK3.out)⟩
        go_wp2_with (first | (at_builtin; go_must (refine Kd.R_append (Kd.int .u8) (w0 := w) w.heap.size rfl (.tmp 24) (.tmp 31) 27 5 (.int .u8 0) 1 rfl Try.underlying27 info5 rfl (by decide) (by omega) u5 _ (b / 16777216) [.int .u8 (b / 16777216)] (fun k => k ≠ w.heap.size) (fun _ => False) rfl rfl ?aP (fun _ hk => hk.elim) ?aF HR3.out HB3.out ?aS ?aL ?_); (case aP => exact rfl); (case aF => (intro k hk; have := blk_lt HK3.out; omega)); (case aS => exact HS3.out); (case aL => simp [b4]; omega); intro v4 w4 ho hb4 hg hat; have HR4 := Aside0.mk ho; have HB4 := Aside0.mk hb4; have HK4 : Aside0 (w4.heap[w.heap.size]? = _) := ⟨(hg.block _ (blk_lt HK3.out) (fun e => HR3.out.1 _ e.symm rfl)).trans HK3.out⟩; clear ho hb4 hg hat))
        go_roundw
        case measure => simp [intOf]
        case rel => exact ⟨4, by omega, by go_num, ⟨by simpa [b4] using HR4.out⟩, HB4, HK4⟩
    · obtain rfl : k = 4 := by omega
      clear c2
      have c3 : wr.cell? ⟨w.heap.size, 3, none⟩ = some (.slice A l.length c) := (blk_cell HK3.out 3).trans rfl
      go_wp2_with (first | (go_at_call 16; (with_reducible refine (put_b w (.cells #[.int .i64 f, .int .i64 t, .int .u32 b, .slice A l.length c] 25 (0, 0)) u5 _ l.length _ HB3.out HK3.out HR3.out (by omega) ?pl _ rfl).mono ?_); (case pl => simp [b4]; omega); rintro e w4 ⟨v4, rfl, hr4, hb4, hk4⟩; have c3' : w4.cell? ⟨w.heap.size, 3, none⟩ = some (.slice A l.length c) := (blk_cell hk4 3).trans rfl; have HR4 := Aside0.mk hr4; have HB4 := Aside0.mk hb4; have HK4 := Aside0.mk hk4; clear hr4 hb4 hk4))
      clear c3 c3' HR3 HB3 HK3 hk hlt
      have hp2 := pre2_len f t b l f1 t1 hl
      have HR5 : Aside0 (Kd.R (Kd.int .u8) 5 w4 w.heap.size (fun k => k ≠ w.heap.size) v4 (pre2 f t b l ++ all (l.take 0))) := ⟨by simpa [pre2, all, b4] using HR4.out⟩
      clear HR4
      go_loopw [5, 42] (fun v i wr => ∃ k : Nat, k ≤ l.length ∧ i = .int .i64 k ∧ Aside0 (Kd.R (Kd.int .u8) 5 wr w.heap.size (fun k => k ≠ w.heap.size) v (pre2 f t b l ++ all (l.take k))) ∧ Aside0 (Below w.heap.size w wr) ∧ Aside0 (wr.heap[w.heap.size]? = some (.cells #[.int .i64 f, .int .i64 t, .int .u32 b, .slice A l.length c] 25 (0, 0)))) (fun _ i _ => l.length - (intOf i).toNat)
      case atStart => exact ⟨0, by omega, rfl, HR5, HB4, HK4⟩
      case round =>
        clear HR5 HB4 HK4
        obtain ⟨k, hk, rfl, HR3, HB3, HK3⟩ := hrel
        by_cases hlt : k < l.length
        · have hat := all_take_len l k he.out (by omega)
          have hek := he.out l[k] (List.getElem_mem _)
          obtain ⟨ad, rfl, hc⟩ := Kd.at_int HR.out (k : Int) (by omega) (by omega)
          rw [show rd l k = l[k] from by simp [rd, hlt], Int.toNat_natCast] at hc
          replace hc := (HB3.out.cell (World.block_lt_of_cell? w _ hc)).trans hc
          have HT : Aside0 (all (l.take (k + 1)) = all (l.take k) ++ digs l[k].toNat) := ⟨take_snoc_all l k hlt⟩
          generalize hx : l[k] = x at hc HT hek
          clear hx
          go_wp2_with (first | (go_at_call 16; (with_reducible refine (put_b w (.cells #[.int .i64 f, .int .i64 t, .int .u32 b, .slice (some ad) l.length c] 25 (0, 0)) u5 _ x.toNat _ HB3.out HK3.out HR3.out (by omega) ?pl _ ?pn).mono ?_); (case pl => simp; omega); (case pn => omega); rintro e w5 ⟨v5, rfl, hr4, hb4, hk4⟩; have HR4 := Aside0.mk hr4; have HB4 := Aside0.mk hb4; have HK4 := Aside0.mk hk4; clear hr4 hb4 hk4))
          go_roundw
          case measure => simp [intOf]; omega
          case rel => exact ⟨k + 1, by omega, by go_num, ⟨by rw [HT.out, ← List.append_assoc]; exact HR4.out⟩, HB4, HK4⟩
        · obtain rfl : k = l.length := by omega
          have HE : Aside0 (encV f t b l = pre2 f t b l ++ all (l.take l.length)) := ⟨by simp [encV, pre2]⟩
          have HGZ : Aside0 (g = 0) := HG
          go_wp2
          go_ret2
          exact ⟨u5, by rfl, by rw [HE.out]; exact Kd.R_mono HR3.out (fun _ _ => trivial), HB3.out⟩
end Go.Proofs.Ytfgoangcckiffaa.EncW
