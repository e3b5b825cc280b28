/- This text walks those of the heap's functions whose answer or parameter, a pair of numbers, lies in memory of its own. -/
import Derived.Test.YtiblnccbeefdkaaHw
import Derived.Test.YtiblnccbeefdkaaHputsa
import Derived.Deep.DeepCutAuto
namespace Go.Proofs.Ytiblnccbeefdkaa.Hsa
open Go.RowKit Go.Proofs.YtiblnccbeefdkaaW.PrintWords Go.Proofs.Ytiblnccbeefdkaa.Mp Go.Proofs.Ytiblnccbeefdkaa.Hp
set_option linter.unusedVariables false
set_option linter.unusedSimpArgs false
/-- A heap, and new memory behind it. -/
theorem boxed {base hb pb : Nat} {lv sv : Value} {L0 : List (It ByteArray (Int × Int))} {c : Int} {w : World} (R : Rep F w base hb pb lv sv L0 c) (o : Obj) :
    Rep F (w.alloc o) base hb pb lv sv L0 c ∧ (w.alloc o).heap[w.heap.size]? = some o ∧ Kp w (w.alloc o) (fun _ => False) ∧ ¬ Mine hb pb sv w.heap.size := by
  refine ⟨R.kept ((Kp.refl w (fun _ => False)).alloc o) (fun _ h => h.elim), heap_alloc_new w o, (Kp.refl w _).alloc o, ?_⟩
  intro hq
  rcases hq with h | h | h
  · have := blk_lt R.head; omega
  · have := R.map.lt; omega
  · have := own_lt R.own _ h; omega
set_option maxHeartbeats 2000000 in
set_option maxRecDepth 100000 in
theorem get_in {base hb pb : Nat} {lv sv : Value} {L0 : List (It ByteArray (Int × Int))} {c : Int} {w : World} (R : Rep F w base hb pb lv sv L0 c) {i : Nat} {x : It ByteArray (Int × Int)} (hx : L0[i]? = some x) :
    Calls Try.prog 24 #[.pointer (some ⟨hb, 0, none⟩), .string x.key] w fun e w' => e = .returned (.tuple #[.agg #[.int .i64 x.rank.1, .int .i64 x.rank.2], .bool true]) ∧ Kp w w' (fun _ => False) := by
  obtain ⟨R1, bp, ka, hmb⟩ := boxed R (.cells #[.int .i64 0, .int .i64 0] 48)
  have KA := Aside0.mk ka
  go_enter Try.func24, Try.ntmps24
  go_upto_region 1 with (fail)
  generalize hw1 : w.alloc (.cells #[.int .i64 0, .int .i64 0] 48) = w1 at *
  generalize hbx : w.heap.size = bx at *
  clear R ka
  have hlook : (Instr.lookup 77 (.map (some pb)) (.string x.key) true).run Try.prog w1 = .ok (.tuple #[.int .i64 (i : Int), .bool true]) w1 := by
    have h := R1.map.look F.KV Try.underlying77 Try.underlying9 (z := .int .i64 0) (by kernel_rfl) x.key
    rw [(place_iff R1.nodup x.key i).2 ⟨x, hx, rfl⟩] at h
    exact h
  have c2 : w1.cell? ⟨hb, 2, none⟩ = some (.map (some pb)) := (blk_cell R1.head 2).trans rfl
  have hi := (List.getElem?_eq_some_iff.1 hx).1
  obtain ⟨g, cap, rfl⟩ := R1.slice (by omega)
  have c1 : w1.cell? ⟨hb, 1, none⟩ = some (.slice (some ⟨g, 0, none⟩) L0.length cap) := (blk_cell R1.head 1).trans rfl
  have i1 : w1.cell? ⟨g, i * 4 + 1, none⟩ = some (.int .i64 x.rank.1) := own_cell R1.own _ _ ((flat_get F L0 i 1 x hx (by decide)).trans rfl)
  have i2 : w1.cell? ⟨g, i * 4 + 2, none⟩ = some (.int .i64 x.rank.2) := own_cell R1.own _ _ ((flat_get F L0 i 2 x hx (by decide)).trans rfl)
  have b0 : w1.cell? ⟨bx, 0, none⟩ = some (.int .i64 0) := (blk_cell bp 0).trans rfl
  have b1 : w1.cell? ⟨bx, 1, none⟩ = some (.int .i64 0) := (blk_cell bp 1).trans rfl
  have f0 : w1.frozen? ⟨bx, 0, none⟩ = false := blk_frozen bp 0
  have f1 : w1.frozen? ⟨bx, 1, none⟩ = false := blk_frozen bp 1
  have BP := Aside0.mk bp
  have HB := Aside0.mk hbx
  clear R1 hx bp hmb hw1 hbx
  go_wp2
  have BP2 : Aside0 (((w1.setCell ⟨bx, 0, none⟩ (.int .i64 x.rank.1)).setCell ⟨bx, 1, none⟩ (.int .i64 x.rank.2)).heap[bx]? = some (.cells #[.int .i64 x.rank.1, .int .i64 x.rank.2] 48 (0, 0))) := ⟨blk_put (blk_put BP.out 0 _ rfl) 1 _ rfl⟩
  have KS : Aside0 (Kp w1 ((w1.setCell ⟨bx, 0, none⟩ (.int .i64 x.rank.1)).setCell ⟨bx, 1, none⟩ (.int .i64 x.rank.2)) (fun q => q = bx)) := ⟨Kp.setCell (Kp.setCell (Kp.refl w1 _) (by left; rfl) _) (by left; rfl) _⟩
  generalize (w1.setCell ⟨bx, 0, none⟩ (.int .i64 x.rank.1)).setCell ⟨bx, 1, none⟩ (.int .i64 x.rank.2) = w2 at *
  have e0 : w2.cell? ⟨bx, 0, none⟩ = some (.int .i64 x.rank.1) := (blk_cell BP2.out 0).trans rfl
  have e1 : w2.cell? ⟨bx, 1, none⟩ = some (.int .i64 x.rank.2) := (blk_cell BP2.out 1).trans rfl
  clear c1 c2 i1 i2 b0 b1 f0 f1 hlook
  refine bodyPost_ret (v := .tuple #[.agg #[.int .i64 x.rank.1, .int .i64 x.rank.2], .bool true]) ?_ rfl ⟨rfl, KA.out.then_ KS.out (fun k hk => .inr (by rw [hk, ← HB.out]; exact Nat.le_refl _))⟩
  have hres : Try.f24.results = #[ResultVar.cell 4 48, ResultVar.tmp 5] := rfl
  simp only [results, hres]
  go_simp
theorem len_calls {base hb pb : Nat} {lv sv : Value} {L0 : List (It ByteArray (Int × Int))} {c : Int} {w : World} (R : Rep F w base hb pb lv sv L0 c) :
    Calls Try.prog 26 #[.pointer (some ⟨hb, 0, none⟩)] w fun e w' => e = .returned (.int .i64 (L0.length : Int)) ∧ w = w' := by
  obtain ⟨a, cap, hsv⟩ : ∃ a cap, sv = .slice a L0.length cap := by
    rcases R.own.2 with ⟨hv, h⟩ | ⟨g, cap, _, h, _⟩
    · exact ⟨none, 0, by rw [hv, h]⟩
    · exact ⟨_, _, h⟩
  have c1 : w.cell? ⟨hb, 1, none⟩ = some (.slice a L0.length cap) := (blk_cell R.head 1).trans (by rw [hsv]; rfl)
  clear R hsv
  go_enter Try.func26, Try.ntmps26
  go_wp2
  go_ret
  exact ⟨rfl, rfl⟩
set_option maxRecDepth 100000 in
theorem push_in {base hb pb : Nat} {lv sv : Value} {L0 : List (It ByteArray (Int × Int))} {c : Int} {w : World} (R : Rep F w base hb pb lv sv L0 c) {i : Nat} {x : It ByteArray (Int × Int)} (hx : L0[i]? = some x) (p : (Int × Int)) :
    Calls Try.prog 22 #[.pointer (some ⟨hb, 0, none⟩), .string x.key, .agg #[.int .i64 p.1, .int .i64 p.2]] w fun e w' => e = .returned (.bool false) ∧ Kp w w' (fun _ => False) := by
  obtain ⟨R1, bp, ka, hmb⟩ := boxed R (.cells #[.int .i64 p.1, .int .i64 p.2] 48)
  have KA := Aside0.mk ka
  go_enter Try.func22, Try.ntmps22
  go_upto_region 1 with (fail)
  generalize hw1 : w.alloc (.cells #[.int .i64 p.1, .int .i64 p.2] 48) = w1 at *
  generalize hbx : w.heap.size = bx at *
  clear R ka bp
  have hlook : (Instr.lookup 77 (.map (some pb)) (.string x.key) true).run Try.prog w1 = .ok (.tuple #[.int .i64 (i : Int), .bool true]) w1 := by
    have h := R1.map.look F.KV Try.underlying77 Try.underlying9 (z := .int .i64 0) (by kernel_rfl) x.key
    rw [(place_iff R1.nodup x.key i).2 ⟨x, hx, rfl⟩] at h
    exact h
  have c2 : w1.cell? ⟨hb, 2, none⟩ = some (.map (some pb)) := (blk_cell R1.head 2).trans rfl
  clear R1 hx hmb hw1 hbx
  go_wp2
  go_ret
  exact ⟨rfl, KA.out⟩
set_option maxHeartbeats 2000000 in
set_option maxRecDepth 100000 in
theorem peek_cons {base hb pb : Nat} {lv sv : Value} {L0 : List (It ByteArray (Int × Int))} {c : Int} {w : World} (R : Rep F w base hb pb lv sv L0 c) {x : It ByteArray (Int × Int)} (hx : L0[0]? = some x) :
    Calls Try.prog 46 #[.pointer (some ⟨hb, 0, none⟩)] w fun e w' => e = .returned (.tuple #[.string x.key, .agg #[.int .i64 x.rank.1, .int .i64 x.rank.2], .bool true]) ∧ Kp w w' (fun _ => False) := by
  obtain ⟨R1, bp, ka, hmb⟩ := boxed R (.cells #[.int .i64 0, .int .i64 0] 48)
  have KA := Aside0.mk ka
  go_enter Try.func46, Try.ntmps46
  go_upto_region 1 with (fail)
  generalize hw1 : w.alloc (.cells #[.int .i64 0, .int .i64 0] 48) = w1 at *
  generalize hbx : w.heap.size = bx at *
  clear R ka
  have hi := (List.getElem?_eq_some_iff.1 hx).1
  obtain ⟨g, cap, rfl⟩ := R1.slice (by omega)
  have c1 : w1.cell? ⟨hb, 1, none⟩ = some (.slice (some ⟨g, 0, none⟩) L0.length cap) := (blk_cell R1.head 1).trans rfl
  have i0 : w1.cell? ⟨g, 0, none⟩ = some (.string x.key) := own_cell R1.own _ _ (by have := flat_get F L0 0 0 x hx (by decide); rw [Nat.zero_mul, Nat.zero_add] at this; exact this.trans rfl)
  have i1 : w1.cell? ⟨g, 1, none⟩ = some (.int .i64 x.rank.1) := own_cell R1.own _ _ (by have := flat_get F L0 0 1 x hx (by decide); rw [Nat.zero_mul, Nat.zero_add] at this; exact this.trans rfl)
  have i2 : w1.cell? ⟨g, 2, none⟩ = some (.int .i64 x.rank.2) := own_cell R1.own _ _ (by have := flat_get F L0 0 2 x hx (by decide); rw [Nat.zero_mul, Nat.zero_add] at this; exact this.trans rfl)
  have hne : ((L0.length : Int) == 0) = false := beq_eq_false_iff_ne.2 (by omega)
  have b0 : w1.cell? ⟨bx, 0, none⟩ = some (.int .i64 0) := (blk_cell bp 0).trans rfl
  have b1 : w1.cell? ⟨bx, 1, none⟩ = some (.int .i64 0) := (blk_cell bp 1).trans rfl
  have f0 : w1.frozen? ⟨bx, 0, none⟩ = false := blk_frozen bp 0
  have f1 : w1.frozen? ⟨bx, 1, none⟩ = false := blk_frozen bp 1
  have BP := Aside0.mk bp
  have HB := Aside0.mk hbx
  clear R1 hx bp hmb hw1 hbx
  go_wp2_with fail
  go_region
  have BP2 : Aside0 ((((w1.setCell ⟨bx, 0, none⟩ (.int .i64 x.rank.1)).setCell ⟨bx, 1, none⟩ (.int .i64 x.rank.2)).drew).heap[bx]? = some (.cells #[.int .i64 x.rank.1, .int .i64 x.rank.2] 48 (0, 0))) := ⟨blk_put (blk_put BP.out 0 _ rfl) 1 _ rfl⟩
  have KS : Aside0 (Kp w1 (((w1.setCell ⟨bx, 0, none⟩ (.int .i64 x.rank.1)).setCell ⟨bx, 1, none⟩ (.int .i64 x.rank.2)).drew) (fun q => q = bx)) := ⟨(Kp.setCell (Kp.setCell (Kp.refl w1 _) (by left; rfl) _) (by left; rfl) _).drew⟩
  generalize ((w1.setCell ⟨bx, 0, none⟩ (.int .i64 x.rank.1)).setCell ⟨bx, 1, none⟩ (.int .i64 x.rank.2)).drew = w2 at *
  have e0 : w2.cell? ⟨bx, 0, none⟩ = some (.int .i64 x.rank.1) := (blk_cell BP2.out 0).trans rfl
  have e1 : w2.cell? ⟨bx, 1, none⟩ = some (.int .i64 x.rank.2) := (blk_cell BP2.out 1).trans rfl
  clear c1 i0 i1 i2 b0 b1 f0 f1 hne
  go_wp2
  refine bodyPost_ret (v := .tuple #[.string x.key, .agg #[.int .i64 x.rank.1, .int .i64 x.rank.2], .bool true]) ?_ rfl ⟨rfl, KA.out.then_ KS.out (fun k hk => .inr (by rw [hk, ← HB.out]; exact Nat.le_refl _))⟩
  have hres : Try.f46.results = #[ResultVar.tmp 2, ResultVar.cell 3 48, ResultVar.tmp 4] := rfl
  simp only [results, hres]
  go_simp
end Go.Proofs.Ytiblnccbeefdkaa.Hsa
