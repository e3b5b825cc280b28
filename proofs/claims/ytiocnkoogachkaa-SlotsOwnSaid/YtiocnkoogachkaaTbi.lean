/- This text walks PutAt of a table of things of one kind (int). -/
import Derived.Test.YtiocnkoogachkaaTai
namespace Go.Proofs.Ytiocnkoogachkaa.Ti
open Go.RowKit Go.Proofs.YtiocnkoogachkaaW.PrintWords Go.Proofs.Ytiocnkoogachkaa.Mp Go.Proofs.Ytiocnkoogachkaa.Hp Go.Proofs.Ytiocnkoogachkaa.Tg
set_option linter.unusedVariables false
set_option linter.unusedSimpArgs false
theorem info_pl : (Try.prog.info? 62).map (fun i => (i.zero, i.size, i.bytes)) = some (some (Value.agg #[.int .i64 0, .bool false]), 2, 16) := by kernel_rfl
theorem c_drop {w : World} {base hb pb : Nat} {sv : Value} {L : List (It Int Int)} {c : Int} (R : Rep Hii.F w base hb pb LV sv L c) (hH : Heap L) {k : Int} (hk : k ∈ keys L) (hn : L.length ≤ 1048576) :
    Calls Try.prog 34 #[.pointer (some ⟨hb, 0, none⟩), .int .i64 k] w fun e w' => e = .returned (.bool true) ∧ ∃ x sv2 L2, x.key = k ∧ (x :: L2).Perm L ∧ Heap L2 ∧ Rep Hii.F w' base hb pb LV sv2 L2 c ∧ Kp w w' (fun k => Mine hb pb sv k ∨ False) ∧ sv2.ownBlock = sv.ownBlock := by
  obtain ⟨x, hx, rfl⟩ := List.mem_map.1 hk
  obtain ⟨i, hi⟩ := List.getElem?_of_mem hx
  refine (Hii.drop_in (ok base) R trivial hi hn).mono ?_
  rintro e w' ⟨rfl, sv2, L2, D, R2, _, K, O⟩
  exact ⟨rfl, x, sv2, L2, rfl, DropR.perm D hi, D.heap hi hH, R2, K, O⟩
theorem c_push {w : World} {base hb pb : Nat} {sv : Value} {L : List (It Int Int)} {c : Int} (R : Rep Hii.F w base hb pb LV sv L c) (hH : Heap L) {k : Int} (hk : k ∉ keys L) (hl : (L.length : Int) ≤ c) (hc : c < 1048576) :
    Calls Try.prog 31 #[.pointer (some ⟨hb, 0, none⟩), .int .i64 k, .int .i64 k] w fun e w' => e = .returned (.bool true) ∧ ∃ sv2 L2, L2.Perm (L ++ [⟨k, k, c + 1⟩]) ∧ Heap L2 ∧ Rep Hii.F w' base hb pb LV sv2 L2 (c + 1) ∧ Kp w w' (fun k => Mine hb pb sv k ∨ False) ∧ (∀ b, sv2.ownBlock = some b → sv.ownBlock = some b ∨ w.heap.size ≤ b) := by
  refine (Hii.push_calls (ok base) hb pb sv L c w k k (by omega) (by omega) (by omega) hk R trivial).mono ?_
  rintro e w' ⟨rfl, sv2, L2, u, R2, P, _, K, O⟩
  exact ⟨rfl, sv2, L2, P, push_heap hH u, R2, K, O⟩
section
variable {w0 w : World} {tb hb pb : Nat} {Ps : List (It Int Bool)} {m b : Nat} {held : Int} {S : Nat → Prop}
theorem putAt_bad (h : St PF w0 w tb hb pb LV Z m Ps b held S) {i : Int} (hi : i < 1 ∨ (m : Int) < i) (x : Int) :
    Calls Try.prog 14 #[.pointer (some ⟨tb, 0, none⟩), .int .i64 i, .int .i64 x] w fun e w' => e = .returned (.bool false) ∧ w = w' := by
  obtain ⟨sv, pv, L, c, M, P, _, _, _⟩ := h.ex
  have c0 : w.cell? ⟨tb, 0, none⟩ = some (.int .i64 (m : Int)) := (blk_cell M.head 0).trans rfl
  clear M P h
  by_cases h1 : i < 1
  · have t1 : decide (i < 1) = true := decide_eq_true h1
    clear hi h1
    go_enter Try.func14, Try.ntmps14
    go_wp2
    go_ret
    exact ⟨rfl, rfl⟩
  · have t1 : decide (i < 1) = false := decide_eq_false h1
    have t2 : decide ((m : Int) < i) = true := decide_eq_true (by omega)
    clear hi h1
    go_enter Try.func14, Try.ntmps14
    go_wp2
    go_ret
    exact ⟨rfl, rfl⟩
set_option maxHeartbeats 2000000 in
theorem putAt_held (h : St PF w0 w tb hb pb LV Z m Ps b held S) {j : Nat} {p : It Int Bool} (hp : Ps[j]? = some p) (hr : p.rank = true) (x : Int) :
    Calls Try.prog 14 #[.pointer (some ⟨tb, 0, none⟩), .int .i64 ((j : Int) + 1), .int .i64 x] w fun e w' => e = .returned (.bool false) ∧ w = w' := by
  obtain ⟨sv, pv, L, c, M, P, _, _, _⟩ := h.ex
  have hsm := h.small
  have hle := P.le
  have hj := (List.getElem?_eq_some_iff.1 hp).1
  obtain ⟨g, cap, rfl⟩ := M.slice' (by omega)
  have c0 : w.cell? ⟨tb, 0, none⟩ = some (.int .i64 (m : Int)) := (blk_cell M.head 0).trans rfl
  have c1 : w.cell? ⟨tb, 1, none⟩ = some (.slice (some ⟨g, 0, none⟩) Ps.length cap) := (blk_cell M.head 1).trans rfl
  have e1 : w.cell? ⟨g, j * 2 + 1, none⟩ = some (.bool true) := by rw [← hr]; exact M.cellK (k := 1) hp (by decide) rfl
  have t1 : decide ((j : Int) + 1 < 1) = false := decide_eq_false (by omega)
  have t2 : decide ((m : Int) < (j : Int) + 1) = false := decide_eq_false (by omega)
  clear h M P hp hr
  go_enter Try.func14, Try.ntmps14
  go_wp2_with fail
  go_loopw [23] (fun _ wr => wr = w) (fun _ _ => 0)
  case atStart => rfl
  case round =>
    obtain rfl := hrel
    go_wp2
    go_ret
    exact ⟨rfl, rfl⟩
set_option maxHeartbeats 4000000 in
set_option maxRecDepth 100000 in
theorem putAt_ok (h : St PF w0 w tb hb pb LV Z m Ps b held S) {j : Nat} (hj : j < m) (hfree : ∀ p, Ps[j]? = some p → p.rank = false) (hb1 : b < 1000000) (x : Int) :
    Calls Try.prog 14 #[.pointer (some ⟨tb, 0, none⟩), .int .i64 ((j : Int) + 1), .int .i64 x] w fun e w' => e = .returned (.bool true) ∧ Nx PF w0 w w' tb hb pb LV Z m ((ext Z Ps (j + 1)).set j ⟨x, true, 0⟩) b (held + 1) S := by
  have hsm := h.small
  obtain ⟨sv0, pv0, L0, k0, M0, P0, hl0, hc0, hS0⟩ := h.ex
  have hle := P0.le
  have c0 : w.cell? ⟨tb, 0, none⟩ = some (.int .i64 (m : Int)) := (blk_cell M0.head 0).trans rfl
  have t1 : decide ((j : Int) + 1 < 1) = false := decide_eq_false (by omega)
  have t2 : decide ((m : Int) < (j : Int) + 1) = false := decide_eq_false (by omega)
  have H := Aside0.mk h
  have HF := Aside0.mk hfree
  have H0 : Aside0 (Nx PF w0 w w tb hb pb LV Z m (ext Z Ps Ps.length) b held S) := ⟨by rw [ext_self]; exact h.quiet (Kp.refl _ _)⟩
  clear h hfree M0 P0 hl0 hc0 hS0
  go_enter Try.func14, Try.ntmps14
  go_wp2_with fail
  go_loopw [23] (fun _ wr => ∃ n, Ps.length ≤ n ∧ n ≤ max Ps.length (j + 1) ∧ Aside0 (Nx PF w0 w wr tb hb pb LV Z m (ext Z Ps n) b held S)) (fun _ wr => j + 1 - lenAt wr tb)
  case atStart => exact ⟨Ps.length, Nat.le_refl _, by omega, H0⟩
  case round =>
    obtain ⟨n, hn1, hn2, HN⟩ := hrel
    clear H0 c0
    obtain ⟨S1, h1, T1⟩ := HN.out
    obtain ⟨sv, pv, L, c, M, P, hl, hc, rfl⟩ := h1.ex
    obtain ⟨a, cap, rfl⟩ := M.slice
    have hxl := ext_len Z Ps hn1
    rw [hxl] at M hc h1 T1
    have c1 : wr.cell? ⟨tb, 1, none⟩ = some (.slice a n cap) := (blk_cell M.head 1).trans rfl
    by_cases hlt : n < j + 1
    · have hla := lenAt_eq c1
      have t3 : decide ((n : Int) < (j : Int) + 1) = true := decide_eq_true (by omega)
      have HM := Aside0.mk M
      have HP := Aside0.mk P
      have HST := Aside0.mk h1
      have HT1 := Aside0.mk T1
      have HL := Aside0.mk hl
      have HC := Aside0.mk hc
      have HLA := Aside0.mk hla
      have HROW : Aside0 (wr.ownsRow w0.heap.size 62 2 (.slice a n cap) n (flat PF (ext Z Ps n))) := ⟨by have := M.row; rwa [hxl] at this⟩
      have HXL := Aside0.mk hxl
      clear M P h1 T1 hl hc HN hla hxl
      go_wp2_with (first | (at_builtin; go_must ((refine print_append_cells (w0 := w0) w0.heap.size rfl (.tmp 28) (.tmp 30) 56 62 (.agg #[.int .i64 0, .bool false]) 2 16 rfl Try.underlying56 info_pl rfl (by decide) (by decide) (.slice a n cap) n (flat PF (ext Z Ps n)) [.int .i64 0, .bool false] rfl rfl rfl (by intro u hu; simp only [List.mem_cons, List.not_mem_nil, or_false] at hu; rcases hu with rfl | rfl <;> rfl) HROW.out HST.out.kept.to_below HST.out.kept.size (by omega) ?_); intro v1 w1 hown hB hg hat; obtain ⟨g2, cap2, rfl⟩ := own_sl_ hown; have K0 : Kp wr w1 (fun q => (Value.slice a n cap).ownBlock = some q) := ⟨hg.size, fun k hk hn => hg.block k hk (fun e => hn e.symm), hg.os, hg.tape, hg.output⟩; have hh := blk_kp HM.out.head K0 (fun e => (HM.out.pts tb e).1 rfl); have q1 : w1.cell? ⟨tb, 1, none⟩ = some (.slice a n cap) := (blk_cell hh 1).trans rfl; have q2 : w1.frozen? ⟨tb, 1, none⟩ = false := blk_frozen hh 1; have HO := Aside0.mk hown; have HG := Aside0.mk hg; have HA := Aside0.mk hat; clear hown hB hg hat K0 hh)))
      have hG := HM.out.grow (y := ⟨Z, false, 0⟩) (by rw [HXL.out]; exact HO.out) HG.out HA.out
      clear HO HG HA q1 q2 c1
      generalize w1.setCell ⟨tb, 1, none⟩ (.slice (some ⟨g2, 0, none⟩) (n + 1) cap2) = w2 at *
      obtain ⟨M2, T2⟩ := hG
      have d1 : w2.cell? ⟨tb, 1, none⟩ = some (.slice (some ⟨g2, 0, none⟩) (n + 1) cap2) := (blk_cell M2.head 1).trans rfl
      have d2 : w2.cell? ⟨tb, 2, none⟩ = some (.pointer (some ⟨hb, 0, none⟩)) := (blk_cell M2.head 2).trans rfl
      have HM2 := Aside0.mk M2
      have HT2 := Aside0.mk T2
      have HK : Aside0 (((n : Int) + 1) ∉ keys L) := ⟨by have := key_new HP.out; rwa [HXL.out] at this⟩
      have HC2 : Aside0 (c < 1048576) := ⟨by have := HC.out; omega⟩
      clear M2 T2 HM HROW
      go_region_held3 (fun w' => w'.cell? ⟨tb, 1, none⟩ = some (.slice (some ⟨g2, 0, none⟩) (n + 1) cap2) ∧ w'.cell? ⟨tb, 2, none⟩ = some (.pointer (some ⟨hb, 0, none⟩))) (first | exact ⟨d1, d2⟩ | exact D12.out) (first | (go_at_call 31; go_must ((refine (c_push (HM2.out.stay ((Kp.refl w2 _).drew)).heap HP.out.hH HK.out HL.out HC2.out).mono ?_); rintro e w3 ⟨rfl, sv3, L3, P3, hH3, R3, K3, O3⟩; have FIN := (HM2.out.stay ((Kp.refl w2 _).drew)).heapTo R3 K3 O3; have D12 := Aside0.mk (And.intro ((blk_cell FIN.1.head 1).trans rfl) ((blk_cell FIN.1.head 2).trans rfl)))))
      have REL : Aside0 (Nx PF w0 w w3 tb hb pb LV Z m (ext Z Ps (n + 1)) b held S) := ⟨by
        have hl3 : L3.length = L.length + 1 := by rw [P3.length_eq]; simp
        have N2 : Nx PF w0 wr w3 tb hb pb LV Z m (ext Z Ps n ++ [⟨Z, false, 0⟩]) b held (Ours tb hb pb sv (Value.slice a n cap)) :=
          HST.out.next FIN.1 (HP.out.push (by rw [HXL.out]; omega) hH3 (by rw [HXL.out]; exact P3)) (by have := HL.out; omega) (by have := HC.out; rw [List.length_append, HXL.out, List.length_singleton]; omega) ((HT2.out.trans (Step.quiet ((Kp.refl w2 _).drew))).trans FIN.2)
        rw [ext_succ Z Ps hn1]
        obtain ⟨S3, q1, q2⟩ := N2
        exact ⟨S3, q1, HT1.out.trans q2⟩⟩
      have HLB : Aside0 (lenAt w3 tb = n + 1) := ⟨lenAt_eq D12.out.1⟩
      clear FIN D12 P3 hH3 R3 K3 O3 HST HT1 HT2 HM2 HP d1 d2
      go_roundw
      case measure => have h1 := HLA.out; have h2 := HLB.out; omega
      case rel => exact ⟨_, _, _, _, _, _, _, _, _, _, _, _, _, _, _, _, _, _, _, _, _, _, _, _, _, _, _, _, _, _, _, _, ⟨n + 1, by omega, by omega, REL⟩, rfl⟩
    · have hX := ext_max (z := Z) hn1 hn2 hlt
      rw [hX] at P M h1
      obtain ⟨p, hp, hr⟩ := ext_at (z := Z) HF.out
      rw [hX] at hxl
      obtain ⟨g, cap3, he⟩ := M.slice' (by omega)
      rw [hxl] at he
      obtain ⟨rfl, rfl⟩ : a = some ⟨g, 0, none⟩ ∧ cap = cap3 := by simpa using he
      clear he hX
      rw [← hxl] at M
      have t3 : decide ((n : Int) < (j : Int) + 1) = false := decide_eq_false (by omega)
      have e1 : wr.cell? ⟨g, j * 2 + 1, none⟩ = some (.bool false) := by rw [← hr]; exact M.cellK (k := 1) hp (by decide) rfl
      have c2 : wr.cell? ⟨tb, 2, none⟩ = some (.pointer (some ⟨hb, 0, none⟩)) := (blk_cell M.head 2).trans rfl
      have HK : Aside0 (((j : Int) + 1) ∈ keys L) := ⟨(P.free _).2 ⟨j, rfl, p, hp, hr⟩⟩
      have HM := Aside0.mk M
      have HP := Aside0.mk P
      have HST := Aside0.mk h1
      have HT1 := Aside0.mk T1
      have HL := Aside0.mk hl
      have HC := Aside0.mk hc
      have HX := Aside0.mk hxl
      have HPP := Aside0.mk hp
      have HR := Aside0.mk hr
      have HL2 : Aside0 (L.length ≤ 1048576) := ⟨by have := P.le; rw [hxl] at this; omega⟩
      clear M P h1 T1 hl hc HN hxl hp hr
      go_wp2_with fail
      refine (c_drop HM.out.heap HP.out.hH HK.out HL2.out).mono ?_
      rintro e w3 ⟨rfl, y, sv3, L3, hy, P3, hH3, R3, K3, O3⟩
      obtain ⟨M3, T3⟩ := HM.out.heapTo R3 K3 (fun b hb => .inl (by rw [← O3]; exact hb))
      have P4 := HP.out.put x HPP.out HR.out HM.out.heap.nodup hH3 P3 hy
      have hl4 : L3.length + 1 = L.length := by have := P3.length_eq; simpa using this
      have d1 : w3.cell? ⟨tb, 1, none⟩ = some (.slice (some ⟨g, 0, none⟩) n cap) := by rw [← HX.out]; exact (blk_cell M3.head 1).trans rfl
      have f0 : w3.cell? ⟨g, j * 2, none⟩ = some (.int .i64 p.key) := M3.cellK (k := 0) HPP.out (by decide) rfl
      have f1 : w3.cell? ⟨g, j * 2 + 1, none⟩ = some (.bool p.rank) := M3.cellK (k := 1) HPP.out (by decide) rfl
      have z0 : w3.frozen? ⟨g, j * 2, none⟩ = false := own_frozen M3.row _
      have z1 : w3.frozen? ⟨g, j * 2 + 1, none⟩ = false := own_frozen M3.row _
      have hG := M3.putRow (y := ⟨x, true, 0⟩) rfl rfl (List.getElem?_eq_some_iff.1 HPP.out).1
      have HG := Aside0.mk hG
      have HT3 := Aside0.mk T3
      have HP4 := Aside0.mk P4
      have HL4 := Aside0.mk hl4
      clear M3 T3 P4 hl4 P3 hH3 R3 K3 O3 HM hG hy HK e1 c1 c2
      go_upto_region 10 with (fail)
      generalize (w3.setCell ⟨g, j * 2, none⟩ (.int .i64 x)).setCell ⟨g, j * 2 + 1, none⟩ (.bool true) = w4 at *
      have c3 : w4.cell? ⟨tb, 3, none⟩ = some (.int .i64 held) := (blk_cell HG.out.1.head 3).trans rfl
      have z3 : w4.frozen? ⟨tb, 3, none⟩ = false := blk_frozen HG.out.1.head 3
      have hh0 := HP.out.held_le.1
      have hh1 := HP.out.held_le.2
      clear d1 f0 f1 z0 z1
      go_wp2_with fail
      have FIN : Aside0 (Nx PF w0 w (w4.setCell ⟨tb, 3, none⟩ (.int .i64 (held + 1))) tb hb pb LV Z m ((ext Z Ps (j + 1)).set j ⟨x, true, 0⟩) b (held + 1) S) := ⟨by
        obtain ⟨M5, T5⟩ := HG.out.1.setHeld (held + 1)
        have T3 := HT3.out
        have T4 := HG.out.2
        rw [HX.out] at T3 T4
        have h5 := M5
        obtain ⟨S3, q1, q2⟩ := HST.out.next (b2 := b) h5 HP4.out (by have := HL.out; have := HL4.out; omega) (by have := HC.out; rw [List.length_set, HX.out]; exact this) (by
          have T5' := T5
          rw [HX.out] at T5' ⊢
          exact (T3.trans T4).trans T5')
        exact ⟨S3, q1, HT1.out.trans q2⟩⟩
      clear HG HT3 HP4 HL4 HST HT1 HP c3 z3
      go_ret
      exact ⟨rfl, FIN.out⟩
end
end Go.Proofs.Ytiocnkoogachkaa.Ti
