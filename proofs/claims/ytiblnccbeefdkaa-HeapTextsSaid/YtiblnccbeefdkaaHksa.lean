/- This text walks Pop over keys that are texts and ranks that are pairs. -/
import Derived.Test.YtiblnccbeefdkaaHgsa
import Derived.Test.YtiblnccbeefdkaaHdrsa
namespace Go.Proofs.Ytiblnccbeefdkaa.Hsa
open Go.RowKit Go.Proofs.YtiblnccbeefdkaaW.PrintWords Go.Proofs.Ytiblnccbeefdkaa.Mp Go.Proofs.Ytiblnccbeefdkaa.Hp
set_option linter.unusedVariables false
set_option linter.unusedSimpArgs false
set_option maxHeartbeats 2000000 in
set_option maxRecDepth 100000 in
theorem pop_cons {A : (Int × Int) → (Int × Int) → Bool → Prop} {I : World → Prop} {S : Nat → Prop} {base : Nat} {lv : Value} (L : LessOk Try.prog (fun r : Int × Int => Value.agg #[.int .i64 r.1, .int .i64 r.2]) A lv I S base) {hb pb : Nat} {sv : Value} {L0 : List (It ByteArray (Int × Int))} {c : Int} {w : World} (R : Rep F w base hb pb lv sv L0 c) (hI : I w) {x : It ByteArray (Int × Int)} (hx : L0[0]? = some x) (hn : L0.length ≤ 1048576) :
    Calls Try.prog 25 #[.pointer (some ⟨hb, 0, none⟩)] w fun e w' => e = .returned (.tuple #[.string x.key, .agg #[.int .i64 x.rank.1, .int .i64 x.rank.2], .bool true]) ∧ ∃ sv' L1, DropR A L0 0 L1 ∧ Rep F w' base hb pb lv sv' L1 c ∧ I w' ∧ Kp w w' (fun k => Mine hb pb sv k ∨ S k) ∧ sv'.ownBlock = sv.ownBlock := by
  have HZ : Aside0 (base ≤ w.heap.size) := ⟨R.size⟩
  obtain ⟨R1, bp, ka, hmb⟩ := boxed R (.cells #[.int .i64 0, .int .i64 0] 48)
  have HL := Aside0.mk L
  have HX := Aside0.mk hx
  have HN := Aside0.mk hn
  have HK := Aside0.mk ka
  have HR := Aside0.mk R1
  have HI1 : Aside0 (I (w.alloc (.cells #[.int .i64 0, .int .i64 0] 48))) := ⟨L.stable _ _ hI (fun k hk => ka.2 k (Nat.lt_of_lt_of_le hk R.size) (fun h => h))⟩
  have HM : Aside0 (¬ (Mine hb pb sv w.heap.size ∨ S w.heap.size)) := ⟨fun h => h.elim hmb (fun h => by have := L.low _ h; have := HZ.out; omega)⟩
  have BP := Aside0.mk bp
  clear R hI L hx hn R1 bp ka hmb
  go_enter Try.func25, Try.ntmps25
  go_upto_region 1 with (fail)
  generalize hw1 : w.alloc (.cells #[.int .i64 0, .int .i64 0] 48) = w1 at *
  generalize hbx : w.heap.size = bx at *
  have HB := Aside0.mk hbx
  clear hw1 hbx
  go_wp2_with fail
  refine (peek_cons HR.out HX.out).mono ?_
  rintro e w2 ⟨rfl, hK⟩
  have HK2 : Aside0 (Kp w w2 (fun _ => False)) := ⟨HK.out.then_ hK (fun _ h => h.elim)⟩
  have HI2 : Aside0 (I w2) := ⟨HL.out.stable _ _ HI1.out (fun k hk => hK.2 k (Nat.lt_of_lt_of_le hk HR.out.size) (fun h => h))⟩
  have HR2 := Aside0.mk (HR.out.kept hK (fun _ h => h.elim))
  have bp2 := blk_kp BP.out hK (fun h => h)
  have b0 : w2.cell? ⟨bx, 0, none⟩ = some (.int .i64 0) := (blk_cell bp2 0).trans rfl
  have b1 : w2.cell? ⟨bx, 1, none⟩ = some (.int .i64 0) := (blk_cell bp2 1).trans rfl
  have f0 : w2.frozen? ⟨bx, 0, none⟩ = false := blk_frozen bp2 0
  have f1 : w2.frozen? ⟨bx, 1, none⟩ = false := blk_frozen bp2 1
  have BP2 := Aside0.mk bp2
  clear hK bp2 HK HI1 HR BP
  go_wp2_with fail
  have BP3 : Aside0 (((w2.setCell ⟨bx, 0, none⟩ (.int .i64 x.rank.1)).setCell ⟨bx, 1, none⟩ (.int .i64 x.rank.2)).heap[bx]? = some (.cells #[.int .i64 x.rank.1, .int .i64 x.rank.2] 48 (0, 0))) := ⟨blk_put (blk_put BP2.out 0 _ rfl) 1 _ rfl⟩
  have KS : Aside0 (Kp w2 ((w2.setCell ⟨bx, 0, none⟩ (.int .i64 x.rank.1)).setCell ⟨bx, 1, none⟩ (.int .i64 x.rank.2)) (fun q => q = bx)) := ⟨Kp.setCell (Kp.setCell (Kp.refl w2 _) (by left; rfl) _) (by left; rfl) _⟩
  clear b0 b1 f0 f1 BP2
  generalize (w2.setCell ⟨bx, 0, none⟩ (.int .i64 x.rank.1)).setCell ⟨bx, 1, none⟩ (.int .i64 x.rank.2) = w3 at *
  have HR3 := Aside0.mk (HR2.out.kept KS.out (fun k hk hm => HM.out (.inl (by rw [← hk]; exact hm))))
  have HI3 : Aside0 (I w3) := ⟨HL.out.stable _ _ HI2.out (fun k hk => KS.out.2 k (Nat.lt_of_lt_of_le hk HR2.out.size) (fun h => by have := HZ.out; omega))⟩
  have HK3 : Aside0 (Kp w w3 (fun _ => False)) := ⟨HK2.out.then_ KS.out (fun k hk => .inr (by rw [hk, ← HB.out]; exact Nat.le_refl _))⟩
  clear HR2 HI2 KS HK2
  refine (drop_in HL.out HR3.out HI3.out HX.out HN.out).mono ?_
  rintro e w4 ⟨rfl, sv', L1, h1, h2, h3, h4, h5⟩
  have bp4 := blk_kp BP3.out h4 HM.out
  have b0 : w4.cell? ⟨bx, 0, none⟩ = some (.int .i64 x.rank.1) := (blk_cell bp4 0).trans rfl
  have b1 : w4.cell? ⟨bx, 1, none⟩ = some (.int .i64 x.rank.2) := (blk_cell bp4 1).trans rfl
  have f0 : w4.frozen? ⟨bx, 0, none⟩ = false := blk_frozen bp4 0
  have f1 : w4.frozen? ⟨bx, 1, none⟩ = false := blk_frozen bp4 1
  have hnb : ¬ (sv'.ownBlock = some bx) := fun h => HM.out (.inl (.inr (.inr (by rw [← h5]; exact h))))
  have hnm : ¬ Mine hb pb sv' bx := fun h => by
    rcases h with h | h | h
    · exact HM.out (.inl (.inl h))
    · exact HM.out (.inl (.inr (.inl h)))
    · exact hnb h
  have FIN : Aside0 (∃ sv' L1, DropR A L0 0 L1 ∧ Rep F w4 base hb pb lv sv' L1 c ∧ I w4 ∧ Kp w w4 (fun k => Mine hb pb sv k ∨ S k) ∧ sv'.ownBlock = sv.ownBlock ∧ ¬ Mine hb pb sv' bx) :=
    ⟨sv', L1, h1, h2, h3, Kp.then_ (HK3.out.mono (fun _ h => h.elim)) h4 (fun k hk => .inl hk), h5, hnm⟩
  have BP4 := Aside0.mk bp4
  clear h1 h2 h3 h4 h5 bp4 hnb hnm HR3 HI3 HK3 BP3
  go_wp2_with fail
  go_region
  have BP5 : Aside0 ((((w4.setCell ⟨bx, 0, none⟩ (.int .i64 x.rank.1)).setCell ⟨bx, 1, none⟩ (.int .i64 x.rank.2)).drew).heap[bx]? = some (.cells #[.int .i64 x.rank.1, .int .i64 x.rank.2] 48 (0, 0))) := ⟨blk_put (blk_put BP4.out 0 _ rfl) 1 _ rfl⟩
  have KT : Aside0 (Kp w4 (((w4.setCell ⟨bx, 0, none⟩ (.int .i64 x.rank.1)).setCell ⟨bx, 1, none⟩ (.int .i64 x.rank.2)).drew) (fun q => q = bx)) := ⟨(Kp.setCell (Kp.setCell (Kp.refl w4 _) (by left; rfl) _) (by left; rfl) _).drew⟩
  clear b0 b1 f0 f1 BP4
  generalize ((w4.setCell ⟨bx, 0, none⟩ (.int .i64 x.rank.1)).setCell ⟨bx, 1, none⟩ (.int .i64 x.rank.2)).drew = w5 at *
  have e0 : w5.cell? ⟨bx, 0, none⟩ = some (.int .i64 x.rank.1) := (blk_cell BP5.out 0).trans rfl
  have e1 : w5.cell? ⟨bx, 1, none⟩ = some (.int .i64 x.rank.2) := (blk_cell BP5.out 1).trans rfl
  have FIN2 : Aside0 (∃ sv' L1, DropR A L0 0 L1 ∧ Rep F w5 base hb pb lv sv' L1 c ∧ I w5 ∧ Kp w w5 (fun k => Mine hb pb sv k ∨ S k) ∧ sv'.ownBlock = sv.ownBlock) := by
    obtain ⟨sv', L1, h1, h2, h3, h4, h5, h6⟩ := FIN.out
    exact ⟨sv', L1, h1, h2.kept KT.out (fun k hk hm => h6 (by rw [← hk]; exact hm)), HL.out.stable _ _ h3 (fun k hk => KT.out.2 k (Nat.lt_of_lt_of_le hk h2.size) (fun h => by have := HZ.out; omega)), h4.then_ KT.out (fun k hk => .inr (by rw [hk, ← HB.out]; exact Nat.le_refl _)), h5⟩
  clear FIN KT
  go_wp2
  refine bodyPost_ret (v := .tuple #[.string x.key, .agg #[.int .i64 x.rank.1, .int .i64 x.rank.2], .bool true]) ?_ rfl ⟨rfl, FIN2.out⟩
  have hres : Try.f25.results = #[ResultVar.tmp 2, ResultVar.cell 3 48, ResultVar.tmp 4] := rfl
  simp only [results, hres]
  go_simp
end Go.Proofs.Ytiblnccbeefdkaa.Hsa
