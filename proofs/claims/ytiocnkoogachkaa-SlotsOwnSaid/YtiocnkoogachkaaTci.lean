/- This text walks New, Put, Drop, Next of a table of things of one kind (int), and says what its calls answer at a point of a law. -/
import Derived.Test.YtiocnkoogachkaaTbi
namespace Go.Proofs.Ytiocnkoogachkaa.Ti
open Go.RowKit Go.Proofs.YtiocnkoogachkaaW.PrintWords Go.Proofs.Ytiocnkoogachkaa.Mp Go.Proofs.Ytiocnkoogachkaa.Hp Go.Proofs.Ytiocnkoogachkaa.Tg
set_option linter.unusedVariables false
set_option linter.unusedSimpArgs false
theorem rep_table (w : World) (lv : Value) (W0 W1 : World) (x : Int) (hW : W1 = W0.alloc (.cells #[.int .i64 x, .slice none 0 0, .pointer (some ⟨w.heap.size + 1, 0, none⟩), .int .i64 0] PF.st)) (R : Rep Hii.F W0 w.heap.size (w.heap.size + 1) w.heap.size lv (.slice none 0 0) [] 0) :
    MR PF W1 w.heap.size W0.heap.size (w.heap.size + 1) w.heap.size lv (.slice none 0 0) (.slice none 0 0) x [] [] 0 0 := by
  subst hW
  have ka : Kp W0 (W0.alloc (.cells #[.int .i64 x, .slice none 0 0, .pointer (some ⟨w.heap.size + 1, 0, none⟩), .int .i64 0] PF.st)) (fun _ => False) := (Kp.refl _ _).alloc _
  have h1 := blk_lt R.head
  have h2 := R.map.lt
  refine ⟨heap_alloc_new W0 _, ⟨rfl, .inl ⟨rfl, rfl⟩⟩, R.kept ka (fun _ h => h.elim), by omega, fun hm => ?_, fun b hb => by cases hb⟩
  rcases hm with hm | hm | hm
  · omega
  · omega
  · cases hm
/-- So many places a table has. -/
def clamp (x : Int) : Nat := (min (max x 0) 65536).toNat
theorem clamp_le (x : Int) : clamp x ≤ 65536 := by unfold clamp; omega
theorem clamp_eq (x : Int) : (clamp x : Int) = min (max x 0) 65536 := by unfold clamp; omega
theorem new_calls (x : Int) (w : World) : Calls Try.prog 7 #[.int .i64 x] w fun e w' => ∃ tb S, e = .returned (.pointer (some ⟨tb, 0, none⟩)) ∧ St PF w w' tb (w.heap.size + 1) w.heap.size LV Z (clamp x) [] (clamp x) 0 S := by
  have hx1 : (if x < 0 then (0 : Int) else x) = max x 0 := by omega
  have hx2 : (if (65536 : Int) < max x 0 then (65536 : Int) else max x 0) = (clamp x : Int) := by rw [clamp_eq]; omega
  go_enter Try.func7, Try.ntmps7
  go_wp2_with fail
  refine (Hii.new_calls 26 #[] w).mono ?_
  rintro e w1 ⟨rfl, R, K⟩
  have HR := Aside0.mk R
  have HK := Aside0.mk K
  clear R K
  go_wp2_with fail
  have hM := rep_table w LV w1 _ (clamp x : Int) rfl HR.out
  have K2 := HK.out.then_ ((Kp.refl w1 (fun _ => False)).alloc (.cells #[.int .i64 (clamp x : Int), .slice none 0 0, .pointer (some ⟨w.heap.size + 1, 0, none⟩), .int .i64 0] PF.st)) (fun _ h => h.elim)
  have FIN : Aside0 (∃ S, St PF w (w1.alloc (.cells #[.int .i64 (clamp x : Int), .slice none 0 0, .pointer (some ⟨w.heap.size + 1, 0, none⟩), .int .i64 0] PF.st)) w1.heap.size (w.heap.size + 1) w.heap.size LV Z (clamp x) [] (clamp x) 0 S) :=
    ⟨⟨_, ⟨_, _, _, _, hM, PI.nil _ _, by simp, by simp, rfl⟩, K2, clamp_le x⟩⟩
  clear hM K2 HR HK
  go_ret
  obtain ⟨S, h⟩ := FIN.out
  exact ⟨_, S, rfl, h⟩
section
variable {w0 w : World} {tb hb pb : Nat} {Ps : List (It Int Bool)} {m b : Nat} {held : Int} {S : Nat → Prop}
theorem free_st (h : St PF w0 w tb hb pb LV Z m Ps b held S) : Calls Try.prog 12 #[.pointer (some ⟨tb, 0, none⟩)] w fun e w' => e = .returned (.int .i64 (freeOf Ps m : Int)) ∧ Nx PF w0 w w' tb hb pb LV Z m Ps b held S := by
  obtain ⟨sv, pv, L, c, M, P, _⟩ := h.ex
  exact (free_calls M P h.small).mono fun e w' q => ⟨q.1, h.quiet q.2⟩
theorem len_st (h : St PF w0 w tb hb pb LV Z m Ps b held S) : Calls Try.prog 13 #[.pointer (some ⟨tb, 0, none⟩)] w fun e w' => e = .returned (.int .i64 held) ∧ w = w' := by
  obtain ⟨sv, pv, L, c, M, P, _⟩ := h.ex
  exact len_calls M
theorem at_st (h : St PF w0 w tb hb pb LV Z m Ps b held S) {j : Nat} {p : It Int Bool} (hp : Ps[j]? = some p) : Calls Try.prog 11 #[.pointer (some ⟨tb, 0, none⟩), .int .i64 ((j : Int) + 1)] w fun e w' => e = .returned (.tuple #[.int .i64 p.key, .bool p.rank]) ∧ Nx PF w0 w w' tb hb pb LV Z m Ps b held S := by
  obtain ⟨sv, pv, L, c, M, P, _⟩ := h.ex
  exact (At_some M hp (Nat.le_trans P.le h.small)).mono fun e w' q => ⟨q.1, h.quiet q.2⟩
theorem at_st_no (h : St PF w0 w tb hb pb LV Z m Ps b held S) {i : Int} (hi : i < 1 ∨ (Ps.length : Int) < i) : Calls Try.prog 11 #[.pointer (some ⟨tb, 0, none⟩), .int .i64 i] w fun e w' => e = .returned (.tuple #[.int .i64 Z, .bool false]) ∧ Nx PF w0 w w' tb hb pb LV Z m Ps b held S := by
  obtain ⟨sv, pv, L, c, M, P, _⟩ := h.ex
  exact (At_none M hi).mono fun e w' q => ⟨q.1, h.quiet q.2⟩
theorem put_no (h : St PF w0 w tb hb pb LV Z m Ps b held S) (hf : freeOf Ps m = 0) (x : Int) : Calls Try.prog 9 #[.pointer (some ⟨tb, 0, none⟩), .int .i64 x] w fun e w' => e = .returned (.tuple #[.int .i64 0, .bool false]) ∧ Nx PF w0 w w' tb hb pb LV Z m Ps b held S := by
  have H := Aside0.mk h
  have HF : Aside0 ((freeOf Ps m : Int) = 0) := ⟨by rw [hf]; rfl⟩
  clear h hf
  go_enter Try.func9, Try.ntmps9
  go_wp2_with fail
  refine (free_st H.out).mono ?_
  rintro e w1 ⟨rfl, N1⟩
  rw [HF.out]
  have HN := Aside0.mk N1
  obtain ⟨S1, h1, T1⟩ := N1
  have H1 := Aside0.mk h1
  clear h1 T1 H
  go_wp2_with fail
  refine (putAt_bad H1.out (.inl (by omega)) x).mono ?_
  rintro e w2 ⟨rfl, rfl⟩
  go_wp2
  go_ret2
  exact ⟨rfl, HN.out⟩
theorem put_ok (h : St PF w0 w tb hb pb LV Z m Ps b held S) {j : Nat} (hf : freeOf Ps m = j + 1) (hj : j < m) (hfree : ∀ p, Ps[j]? = some p → p.rank = false) (hb1 : b < 1000000) (x : Int) : Calls Try.prog 9 #[.pointer (some ⟨tb, 0, none⟩), .int .i64 x] w fun e w' => e = .returned (.tuple #[.int .i64 ((j : Int) + 1), .bool true]) ∧ Nx PF w0 w w' tb hb pb LV Z m ((ext Z Ps (j + 1)).set j ⟨x, true, 0⟩) b (held + 1) S := by
  have H := Aside0.mk h
  have HF : Aside0 ((freeOf Ps m : Int) = (j : Int) + 1) := ⟨by rw [hf]; rfl⟩
  have HFR := Aside0.mk hfree
  have HB := Aside0.mk hb1
  have HJ := Aside0.mk hj
  clear h hf hfree hb1 hj
  go_enter Try.func9, Try.ntmps9
  go_wp2_with fail
  refine (free_st H.out).mono ?_
  rintro e w1 ⟨rfl, N1⟩
  rw [HF.out]
  obtain ⟨S1, h1, T1⟩ := N1
  have H1 := Aside0.mk h1
  have HT1 := Aside0.mk T1
  clear h1 T1 H
  go_wp2_with fail
  refine (putAt_ok H1.out HJ.out HFR.out HB.out x).mono ?_
  rintro e w2 ⟨rfl, S2, h2, T2⟩
  have FIN : Aside0 (Nx PF w0 w w2 tb hb pb LV Z m ((ext Z Ps (j + 1)).set j ⟨x, true, 0⟩) b (held + 1) S) := ⟨⟨S2, h2, HT1.out.trans T2⟩⟩
  clear h2 T2 HT1 H1
  go_wp2
  go_ret2
  exact ⟨rfl, FIN.out⟩
theorem drop_no (h : St PF w0 w tb hb pb LV Z m Ps b held S) {i : Int} (hi : (i < 1 ∨ (Ps.length : Int) < i) ∨ ∃ (j : Nat) (p : It Int Bool), i = (j : Int) + 1 ∧ Ps[j]? = some p ∧ p.rank = false) :
    Calls Try.prog 10 #[.pointer (some ⟨tb, 0, none⟩), .int .i64 i] w fun e w' => e = .returned (.tuple #[.int .i64 Z, .bool false]) ∧ Nx PF w0 w w' tb hb pb LV Z m Ps b held S := by
  have hA : Calls Try.prog 11 #[.pointer (some ⟨tb, 0, none⟩), .int .i64 i] w fun e w' => e = .returned (.tuple #[.int .i64 Z, .bool false]) ∧ Nx PF w0 w w' tb hb pb LV Z m Ps b held S := by
    rcases hi with hi | ⟨j, p, rfl, hp, hr⟩
    · exact at_st_no h hi
    · obtain ⟨sv, pv, L, c, M, P, _⟩ := h.ex
      have hz := P.zero p (List.mem_of_getElem? hp) hr
      have := at_st h hp
      rwa [hz, hr] at this
  have HA := Aside0.mk hA
  clear hA h hi
  go_enter Try.func10, Try.ntmps10
  go_wp2_with fail
  refine HA.out.mono ?_
  rintro e w1 ⟨rfl, N1⟩
  have HN := Aside0.mk N1
  clear N1
  go_wp2
  go_ret2
  exact ⟨rfl, HN.out⟩
set_option maxHeartbeats 2000000 in
theorem drop_ok (h : St PF w0 w tb hb pb LV Z m Ps b held S) {j : Nat} {p : It Int Bool} (hp : Ps[j]? = some p) (hr : p.rank = true) (hb1 : b < 1000000) :
    Calls Try.prog 10 #[.pointer (some ⟨tb, 0, none⟩), .int .i64 ((j : Int) + 1)] w fun e w' => e = .returned (.tuple #[.int .i64 p.key, .bool true]) ∧ Nx PF w0 w w' tb hb pb LV Z m (Ps.set j ⟨Z, false, 0⟩) (b + 1) (held - 1) S := by
  have hsm := h.small
  have H := Aside0.mk h
  have HP := Aside0.mk hp
  have HR := Aside0.mk hr
  have HB := Aside0.mk hb1
  clear h hp hr hb1
  go_enter Try.func10, Try.ntmps10
  go_wp2_with fail
  refine (at_st H.out HP.out).mono ?_
  rintro e w1 ⟨rfl, S1, h1, T1⟩
  rw [HR.out]
  obtain ⟨sv, pv, L, c, M, P, hl, hc, rfl⟩ := h1.ex
  have hj := (List.getElem?_eq_some_iff.1 HP.out).1
  have hle := P.le
  obtain ⟨g, cap, rfl⟩ := M.slice' (by omega)
  have c1 : w1.cell? ⟨tb, 1, none⟩ = some (.slice (some ⟨g, 0, none⟩) Ps.length cap) := (blk_cell M.head 1).trans rfl
  have e0 : w1.cell? ⟨g, j * 2, none⟩ = some (.int .i64 p.key) := M.cellK (k := 0) HP.out (by decide) rfl
  have e1 : w1.cell? ⟨g, j * 2 + 1, none⟩ = some (.bool p.rank) := M.cellK (k := 1) HP.out (by decide) rfl
  have z0 : w1.frozen? ⟨g, j * 2, none⟩ = false := own_frozen M.row _
  have z1 : w1.frozen? ⟨g, j * 2 + 1, none⟩ = false := own_frozen M.row _
  have hG := M.putRow (y := ⟨Z, false, 0⟩) (a := .int .i64 0) (b := .bool false) rfl rfl hj
  have HG := Aside0.mk hG
  have HH1 := Aside0.mk h1
  have HT1 := Aside0.mk T1
  have HPI := Aside0.mk P
  have HL := Aside0.mk hl
  have HC := Aside0.mk hc
  clear M P hl hc h1 T1 hG H
  go_upto_region 4 with (fail)
  generalize (w1.setCell ⟨g, j * 2, none⟩ (.int .i64 0)).setCell ⟨g, j * 2 + 1, none⟩ (.bool false) = w2 at *
  obtain ⟨M2, T2⟩ := HG.out
  have d2 : w2.cell? ⟨tb, 2, none⟩ = some (.pointer (some ⟨hb, 0, none⟩)) := (blk_cell M2.head 2).trans rfl
  have HM2 := Aside0.mk M2
  have HT2 := Aside0.mk T2
  have HK : Aside0 (((j : Int) + 1) ∉ keys L) := ⟨key_held HPI.out HP.out HR.out⟩
  have HC2 : Aside0 (c < 1048576) := ⟨by have := HC.out; have := HB.out; omega⟩
  clear M2 T2 HG c1 e0 e1 z0 z1
  go_wp2_with fail
  refine (c_push HM2.out.heap HPI.out.hH HK.out HL.out HC2.out).mono ?_
  rintro e w3 ⟨rfl, sv3, L3, P3, hH3, R3, K3, O3⟩
  obtain ⟨M3, T3⟩ := HM2.out.heapTo R3 K3 O3
  have P4 := HPI.out.drop HP.out HR.out hH3 P3
  have hl4 : L3.length = L.length + 1 := by rw [P3.length_eq]; simp
  have c3 : w3.cell? ⟨tb, 3, none⟩ = some (.int .i64 held) := (blk_cell M3.head 3).trans rfl
  have z3 : w3.frozen? ⟨tb, 3, none⟩ = false := blk_frozen M3.head 3
  have hh0 := HPI.out.held_le.1
  have hh1 := HPI.out.held_le.2
  have HM3 := Aside0.mk M3
  have HT3 := Aside0.mk T3
  have HP4 := Aside0.mk P4
  have HL4 := Aside0.mk hl4
  clear M3 T3 P4 hl4 P3 hH3 R3 K3 O3 d2 HM2
  go_upto_region 6 with (fail)
  have FIN : Aside0 (Nx PF w0 w (w3.setCell ⟨tb, 3, none⟩ (.int .i64 (held - 1))) tb hb pb LV Z m (Ps.set j ⟨Z, false, 0⟩) (b + 1) (held - 1) S) := ⟨by
    obtain ⟨M5, T5⟩ := HM3.out.setHeld (held - 1)
    obtain ⟨S3, q1, q2⟩ := HH1.out.next (b2 := b + 1) M5 HP4.out (by have := HL.out; have := HL4.out; omega) (by have := HC.out; rw [List.length_set]; omega) ((HT2.out.trans HT3.out).trans T5)
    exact ⟨S3, q1, HT1.out.trans q2⟩⟩
  clear HM3 HT3 HP4 HL4 HH1 HT1 HT2 HPI c3 z3
  generalize w3.setCell ⟨tb, 3, none⟩ (.int .i64 (held - 1)) = w4 at *
  go_wp2
  go_ret2
  exact ⟨rfl, FIN.out⟩
end
end Go.Proofs.Ytiocnkoogachkaa.Ti
