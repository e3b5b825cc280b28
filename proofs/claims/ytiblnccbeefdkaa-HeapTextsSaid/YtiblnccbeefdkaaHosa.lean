/- This text walks Lower, over an order that never says yes, and New without an order, over keys that are texts and ranks that are pairs. -/
import Derived.Test.YtiblnccbeefdkaaHgsa
import Derived.Test.YtiblnccbeefdkaaHzt
namespace Go.Proofs.Ytiblnccbeefdkaa.Hsa
open Go.RowKit Go.Proofs.YtiblnccbeefdkaaW.PrintWords Go.Proofs.Ytiblnccbeefdkaa.Mp Go.Proofs.Ytiblnccbeefdkaa.Hp
set_option linter.unusedVariables false
set_option linter.unusedSimpArgs false
set_option maxHeartbeats 2000000 in
set_option maxRecDepth 100000 in
theorem lower_no {base : Nat} {lv : Value} (L : LessOk Try.prog (fun r : Int × Int => Value.agg #[.int .i64 r.1, .int .i64 r.2]) NoLess lv (fun _ => True) (fun _ => False) base) {hb pb : Nat} {sv : Value} {L0 : List (It ByteArray (Int × Int))} {c : Int} {w : World} (R : Rep F w base hb pb lv sv L0 c) {i : Nat} {x : It ByteArray (Int × Int)} (hx : L0[i]? = some x) (p : (Int × Int)) :
    Calls Try.prog 23 #[.pointer (some ⟨hb, 0, none⟩), .string x.key, .agg #[.int .i64 p.1, .int .i64 p.2]] w fun e w' => e = .returned (.bool false) ∧ Kp w w' (fun _ => False) := by
  obtain ⟨R1, bp, ka, hmb⟩ := boxed R (.cells #[.int .i64 p.1, .int .i64 p.2] 48)
  have KA := Aside0.mk ka
  go_enter Try.func23, Try.ntmps23
  go_upto_region 1 with (fail)
  generalize hw1 : w.alloc (.cells #[.int .i64 p.1, .int .i64 p.2] 48) = w1 at *
  generalize hbx : w.heap.size = bx at *
  clear R ka
  have hlook : (Instr.lookup 77 (.map (some pb)) (.string x.key) true).run Try.prog w1 = .ok (.tuple #[.int .i64 (i : Int), .bool true]) w1 := by
    have h := R1.map.look F.KV Try.underlying77 Try.underlying9 (z := .int .i64 0) (by kernel_rfl) x.key
    rw [(place_iff R1.nodup x.key i).2 ⟨x, hx, rfl⟩] at h
    exact h
  have hi := (List.getElem?_eq_some_iff.1 hx).1
  obtain ⟨g, cap, rfl⟩ := R1.slice (by omega)
  obtain ⟨F0, fn, cp, rfl, hf, hn1, hbd, hcalls⟩ := L.calls
  have c0 : w1.cell? ⟨hb, 0, none⟩ = some (.func (.func F0) #[] cp) := (blk_cell R1.head 0).trans rfl
  have c1 : w1.cell? ⟨hb, 1, none⟩ = some (.slice (some ⟨g, 0, none⟩) L0.length cap) := (blk_cell R1.head 1).trans rfl
  have c2 : w1.cell? ⟨hb, 2, none⟩ = some (.map (some pb)) := (blk_cell R1.head 2).trans rfl
  have i1 : w1.cell? ⟨g, i * 4 + 1, none⟩ = some (.int .i64 x.rank.1) := own_cell R1.own _ _ ((flat_get F L0 i 1 x hx (by decide)).trans rfl)
  have i2 : w1.cell? ⟨g, i * 4 + 2, none⟩ = some (.int .i64 x.rank.2) := own_cell R1.own _ _ ((flat_get F L0 i 2 x hx (by decide)).trans rfl)
  have b0 : w1.cell? ⟨bx, 0, none⟩ = some (.int .i64 p.1) := (blk_cell bp 0).trans rfl
  have b1 : w1.cell? ⟨bx, 1, none⟩ = some (.int .i64 p.2) := (blk_cell bp 1).trans rfl
  have HS : Aside0 (base ≤ w1.heap.size) := ⟨R1.size⟩
  have HC := Aside0.mk hcalls
  have HF := Aside0.mk hf
  have HN := Aside0.mk hn1
  have HD := Aside0.mk hbd
  have HB := Aside0.mk hbx
  clear hcalls hf hn1 hbd L hx R1 bp hmb hw1 hbx
  go_upto_region 2 with (fail)
  refine wp_region_still_tail 16 (by kernel_rfl) (by kernel_rfl) ?_
  change wpStill _ _ w1.drew (fun a' => wpList _ _ _ _ a' w1.drew) _ _
  have HKU : Aside0 (Kp w w1.drew (fun _ => False)) := ⟨KA.out.drew⟩
  have HSU : Aside0 (base ≤ w1.drew.heap.size) := ⟨HS.out⟩
  have c0' : w1.drew.cell? ⟨hb, 0, none⟩ = some (.func (.func F0) #[] cp) := c0
  have c1' : w1.drew.cell? ⟨hb, 1, none⟩ = some (.slice (some ⟨g, 0, none⟩) L0.length cap) := c1
  have i1' : w1.drew.cell? ⟨g, i * 4 + 1, none⟩ = some (.int .i64 x.rank.1) := i1
  have i2' : w1.drew.cell? ⟨g, i * 4 + 2, none⟩ = some (.int .i64 x.rank.2) := i2
  have b0' : w1.drew.cell? ⟨bx, 0, none⟩ = some (.int .i64 p.1) := b0
  have b1' : w1.drew.cell? ⟨bx, 1, none⟩ = some (.int .i64 p.2) := b1
  clear hlook KA HS
  generalize w1.drew = U at *
  simp only [List.take_succ_cons, List.take_zero, List.drop_succ_cons, List.drop_zero]
  repeat still_step
  refine wpStill_nil ?_
  refine goesW_ (by first | rfl | kernel_rfl | (simp [Region.wanted, yielded]; done)) (.tmp 24) #[.tmp 25, .tmp 33] #[48, 48] rfl cp rfl HF.out HN.out HD.out #[.agg #[.int .i64 p.1, .int .i64 p.2], .agg #[.int .i64 x.rank.1, .int .i64 x.rank.2]] (by simp only [List.map_toArray, List.map_cons, List.map_nil]; rfl) ?_
  refine (HC.out p x.rank U trivial HSU.out).mono ?_
  rintro e w2 ⟨r, rfl, hA, hJ, hK⟩
  have hr : r = false := hA
  subst hr
  have HK : Aside0 (Kp w w2 (fun _ => False)) := ⟨HKU.out.then_ hK (fun _ h => .inl h)⟩
  clear hA hJ hK HKU HSU c0 c1 c2 c0' c1' i1 i1' i2 i2' b0 b0' b1 b1'
  refine ⟨_, rfl, ?_⟩
  all_goals go_wp2
  go_ret
  exact ⟨rfl, HK.out⟩
theorem rep_new (w : World) (lv : Value) (W : World) (h : W = ((w.alloc (.map #[] 0)).alloc (.cells #[lv, .slice none 0 0, .map (some w.heap.size), .int .i64 0] 80))) :
    Rep F W w.heap.size (w.heap.size + 1) w.heap.size lv (.slice none 0 0) [] 0 ∧ Kp w W (fun _ => False) := by
  subst h
  have k1 : Kp (w.alloc (.map #[] 0)) ((w.alloc (.map #[] 0)).alloc (.cells #[lv, .slice none 0 0, .map (some w.heap.size), .int .i64 0] 80)) (fun _ => False) := (Kp.refl _ _).alloc _
  refine ⟨⟨?_, ⟨rfl, .inl ⟨rfl, rfl⟩⟩, ?_, List.nodup_nil, by omega, by omega⟩, ((Kp.refl w _).alloc _).alloc _⟩
  · have h := (MapKept.heap_alloc (w.alloc (.map #[] 0)) (.cells #[lv, .slice none 0 0, .map (some w.heap.size), .int .i64 0] 80)).1
    rw [show (w.alloc (.map #[] 0)).heap.size = w.heap.size + 1 from by show (w.heap.push _).size = _; simp] at h
    exact h
  · exact ((MapAt.made (d := F.d) (kv := F.kv) w).kept k1 (fun h => h)).congr (fun k => rfl)
theorem new_nil (w : World) : Calls Try.prog 21 #[.nilFunc] w fun e w' => e = .returned (.pointer (some ⟨w.heap.size + 1, 0, none⟩)) ∧ Rep F w' w.heap.size (w.heap.size + 1) w.heap.size (.func (.func 44) #[] #[]) (.slice none 0 0) [] 0 ∧ Kp w w' (fun _ => False) := by
  have hmm := @run_makeMap Try.prog
  have hq : (binOp BinOp.eql 76 Value.nilFunc Value.nilFunc).run Try.prog w = .ok (.bool true) w := by kernel_rfl
  go_enter Try.func21, Try.ntmps21
  go_wp2
  go_ret
  exact ⟨rfl, rep_new w _ _ rfl⟩
theorem less44 (a b : Int × Int) (w : World) : Calls Try.prog 44 #[.agg #[.int .i64 a.1, .int .i64 a.2], .agg #[.int .i64 b.1, .int .i64 b.2]] w fun e w' => e = .returned (.bool false) ∧ Kp w w' (fun _ => False) := by
  have ka : Kp w ((w.alloc (.cells #[.int .i64 a.1, .int .i64 a.2] 48)).alloc (.cells #[.int .i64 b.1, .int .i64 b.2] 48)) (fun _ => False) := ((Kp.refl w _).alloc _).alloc _
  have KA := Aside0.mk ka
  clear ka
  go_enter Try.func44, Try.ntmps44
  go_wp2
  go_ret
  exact ⟨rfl, KA.out⟩
theorem ok44 (base : Nat) : LessOk Try.prog (fun r : Int × Int => Value.agg #[.int .i64 r.1, .int .i64 r.2]) NoLess (.func (.func 44) #[] #[]) (fun _ => True) (fun _ => False) base :=
  ⟨⟨44, Try.f44, #[], rfl, Try.func44, by kernel_rfl, rfl, fun a b w _ _ => (less44 a b w).mono fun e w' h => ⟨false, h.1, rfl, trivial, h.2⟩⟩, fun _ _ _ _ => trivial, fun _ h => h.elim⟩
end Go.Proofs.Ytiblnccbeefdkaa.Hsa
