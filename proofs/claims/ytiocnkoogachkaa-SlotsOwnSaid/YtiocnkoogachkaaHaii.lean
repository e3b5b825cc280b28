/- This text walks the heap's functions over keys and ranks of one kind (ii): printed by gen.py. -/
import Derived.Test.YtiocnkoogachkaaHp
namespace Go.Proofs.Ytiocnkoogachkaa.Hii
open Go.RowKit Go.Proofs.YtiocnkoogachkaaW.PrintWords Go.Proofs.Ytiocnkoogachkaa.Mp Go.Proofs.Ytiocnkoogachkaa.Hp
set_option linter.unusedVariables false
set_option linter.unusedSimpArgs false
set_option maxHeartbeats 2000000 in
set_option maxRecDepth 100000 in
theorem ahead_calls {A : Int → Int → Bool → Prop} {I : World → Prop} {S : Nat → Prop} {base : Nat} {lv : Value} (L : LessOk Try.prog (Value.int .i64) A lv I S base)
    (hb g i j n cap : Nat) (x y : It Int Int) (w : World) (hi : i < n) (hj : j < n) (hI : I w) (hbase : base ≤ w.heap.size) (hhb : base ≤ hb)
    (c0 : w.cell? ⟨hb, 0, none⟩ = some lv) (c1 : w.cell? ⟨hb, 1, none⟩ = some (.slice (some ⟨g, 0, none⟩) n cap))
    (i0 : w.cell? ⟨g, i * 3, none⟩ = some (.int .i64 x.key))
    (i1 : w.cell? ⟨g, i * 3 + 1, none⟩ = some (.int .i64 x.rank))
    (i2 : w.cell? ⟨g, i * 3 + 2, none⟩ = some (.int .i64 x.came))
    (j0 : w.cell? ⟨g, j * 3, none⟩ = some (.int .i64 y.key))
    (j1 : w.cell? ⟨g, j * 3 + 1, none⟩ = some (.int .i64 y.rank))
    (j2 : w.cell? ⟨g, j * 3 + 2, none⟩ = some (.int .i64 y.came))
    : Calls Try.prog 50 #[.pointer (some ⟨hb, 0, none⟩), .int .i64 i, .int .i64 j] w fun e w' => ∃ r, e = .returned (.bool r) ∧ Ahead A x y r ∧ I w' ∧ Kp w w' S := by
  obtain ⟨F, fn, cp, rfl, hf, hn, hbd, hcalls⟩ := L.calls
  obtain ⟨kx, px, cx⟩ := x
  obtain ⟨ky, py, cy⟩ := y
  simp only at i0 i1 i2 j0 j1 j2
  have hhw : hb < w.heap.size := World.block_lt_of_cell? w _ c0
  have HI := Aside0.mk hI
  have HC := Aside0.mk hcalls
  have HF := Aside0.mk hf
  have HN := Aside0.mk hn
  have HD := Aside0.mk hbd
  have HL := Aside0.mk L
  have HS0 : Aside0 (¬ S hb) := ⟨fun h => absurd (L.low _ h) (by omega)⟩
  have HS1 : Aside0 (¬ S w.heap.size) := ⟨fun h => absurd (L.low _ h) (by omega)⟩
  have HS2 : Aside0 (¬ S (w.heap.size + 1)) := ⟨fun h => absurd (L.low _ h) (by omega)⟩
  clear hI hcalls hf hn hbd L
  have c1a := fun o => cell_alloc (o := o) c1
  have c1b := fun o p => cell_alloc (o := p) (c1a o)
  have i0a := fun o => cell_alloc (o := o) i0
  have i0b := fun o p => cell_alloc (o := p) (i0a o)
  have i1a := fun o => cell_alloc (o := o) i1
  have i1b := fun o p => cell_alloc (o := p) (i1a o)
  have i2a := fun o => cell_alloc (o := o) i2
  have i2b := fun o p => cell_alloc (o := p) (i2a o)
  have j0a := fun o => cell_alloc (o := o) j0
  have j0b := fun o p => cell_alloc (o := p) (j0a o)
  have j1a := fun o => cell_alloc (o := o) j1
  have j1b := fun o p => cell_alloc (o := p) (j1a o)
  have j2a := fun o => cell_alloc (o := o) j2
  have j2b := fun o p => cell_alloc (o := p) (j2a o)
  go_enter Try.func50, Try.ntmps50
  go_wp2
  go_region
  all_goals clear c1a c1b i0 i0a i0b i1 i1a i1b i2 i2a i2b j0 j0a j0b j1 j1a j1b j2 j2a j2b
  all_goals go_wp2
  · generalize hW : World.drew _ = W
    have hkw : Kp w W S := by rw [← hW]; exact (((Kp.refl w S).alloc _).alloc _).drew
    have hIW : I W := HL.out.stable w W HI.out (fun k hk => by rw [← hW]; simp only [World.drew, World.alloc]; rw [Array.getElem?_push_lt (by simp; omega), Array.getElem_push_lt (by omega), Array.getElem?_eq_getElem (by omega)])
    have b0 : W.cell? ⟨hb, 0, none⟩ = some (.func (.func F) #[] cp) := by rw [← hW]; exact cell_alloc (cell_alloc c0)
    have fx1 : W.cell? ⟨w.heap.size, 1, none⟩ = some (.int .i64 px) := by rw [← hW]; exact (two_fst w _ _ _ _ 1).trans rfl
    have fx2 : W.cell? ⟨w.heap.size, 2, none⟩ = some (.int .i64 cx) := by rw [← hW]; exact (two_fst w _ _ _ _ 2).trans rfl
    have fy1 : W.cell? ⟨w.heap.size + 1, 1, none⟩ = some (.int .i64 py) := by rw [← hW]; exact (two_snd w _ _ _ _ 1).trans rfl
    have fy2 : W.cell? ⟨w.heap.size + 1, 2, none⟩ = some (.int .i64 cy) := by rw [← hW]; exact (two_snd w _ _ _ _ 2).trans rfl
    clear hW c0 c1
    refine wp_region_still_tail 8 (by kernel_rfl) (by kernel_rfl) ?_
    have d0 : W.drew.cell? ⟨hb, 0, none⟩ = some (.func (.func F) #[] cp) := b0
    have dfx1 : W.drew.cell? ⟨w.heap.size, 1, none⟩ = some (.int .i64 px) := fx1
    have dfx2 : W.drew.cell? ⟨w.heap.size, 2, none⟩ = some (.int .i64 cx) := fx2
    have dfy1 : W.drew.cell? ⟨w.heap.size + 1, 1, none⟩ = some (.int .i64 py) := fy1
    have dfy2 : W.drew.cell? ⟨w.heap.size + 1, 2, none⟩ = some (.int .i64 cy) := fy2
    have hk1 : Kp w W.drew S := hkw.drew
    have hI1 : I W.drew := HL.out.stable W _ hIW (fun _ _ => rfl)
    change wpStill _ _ W.drew (fun a' => wpList _ _ _ _ a' W.drew) _ _
    clear b0 fx1 fx2 fy1 fy2
    generalize W.drew = U at d0 dfx1 dfx2 dfy1 dfy2 hk1 hI1 ⊢
    clear hkw hIW
    have HK1 := Aside0.mk hk1
    have HI1 := Aside0.mk hI1
    clear hk1 hI1
    simp only [List.take_succ_cons, List.take_zero, List.drop_succ_cons, List.drop_zero]
    repeat still_step
    refine wpStill_nil ?_
    refine goesV_ rfl (.tmp 27) #[.tmp 29, .tmp 31] #[3, 3] rfl cp rfl HF.out HN.out HD.out #[.int .i64 px, .int .i64 py] (by simp only [List.map_toArray, List.map_cons, List.map_nil]; rfl) ?_
    refine (HC.out px py U HI1.out (Nat.le_trans hbase HK1.out.1)).mono ?_
    rintro e W1 ⟨r1, rfl, hA1, hJ1, hQ1⟩
    have hR1 : Kp w W1 S := HK1.out.then_ hQ1 (fun _ h => .inl h)
    have b0 : W1.cell? ⟨hb, 0, none⟩ = some (.func (.func F) #[] cp) := cell_kp d0 hQ1 HS0.out
    have fx1 : W1.cell? ⟨w.heap.size, 1, none⟩ = some (.int .i64 px) := cell_kp dfx1 hQ1 HS1.out
    have fx2 : W1.cell? ⟨w.heap.size, 2, none⟩ = some (.int .i64 cx) := cell_kp dfx2 hQ1 HS1.out
    have fy1 : W1.cell? ⟨w.heap.size + 1, 1, none⟩ = some (.int .i64 py) := cell_kp dfy1 hQ1 HS2.out
    have fy2 : W1.cell? ⟨w.heap.size + 1, 2, none⟩ = some (.int .i64 cy) := cell_kp dfy2 hQ1 HS2.out
    have HA1 := Aside0.mk hA1
    have HJ1 := Aside0.mk hJ1
    have HR1 := Aside0.mk hR1
    clear d0 dfx1 dfx2 dfy1 dfy2 hA1 hJ1 hR1 hQ1
    refine ⟨_, rfl, ?_⟩
    cases r1 with
    | true =>
      go_wp2
      go_ret
      exact ⟨true, rfl, ⟨true, HA1.out, .inl ⟨rfl, rfl⟩⟩, HJ1.out, HR1.out⟩
    | false =>
    go_wp2
    have hL1 := HR1.out
    have hM1 := HJ1.out
    refine wp_region_still_tail 8 (by kernel_rfl) (by kernel_rfl) ?_
    have d0 : W1.drew.cell? ⟨hb, 0, none⟩ = some (.func (.func F) #[] cp) := b0
    have dfx1 : W1.drew.cell? ⟨w.heap.size, 1, none⟩ = some (.int .i64 px) := fx1
    have dfx2 : W1.drew.cell? ⟨w.heap.size, 2, none⟩ = some (.int .i64 cx) := fx2
    have dfy1 : W1.drew.cell? ⟨w.heap.size + 1, 1, none⟩ = some (.int .i64 py) := fy1
    have dfy2 : W1.drew.cell? ⟨w.heap.size + 1, 2, none⟩ = some (.int .i64 cy) := fy2
    have hk2 : Kp w W1.drew S := hL1.drew
    have hI2 : I W1.drew := HL.out.stable W1 _ hM1 (fun _ _ => rfl)
    change wpStill _ _ W1.drew (fun a' => wpList _ _ _ _ a' W1.drew) _ _
    clear b0 fx1 fx2 fy1 fy2
    generalize W1.drew = U at d0 dfx1 dfx2 dfy1 dfy2 hk2 hI2 ⊢
    clear hL1 hM1
    have HK2 := Aside0.mk hk2
    have HI2 := Aside0.mk hI2
    clear hk2 hI2
    simp only [List.take_succ_cons, List.take_zero, List.drop_succ_cons, List.drop_zero]
    repeat still_step
    refine wpStill_nil ?_
    refine goesV_ rfl (.tmp 37) #[.tmp 39, .tmp 41] #[3, 3] rfl cp rfl HF.out HN.out HD.out #[.int .i64 py, .int .i64 px] (by simp only [List.map_toArray, List.map_cons, List.map_nil]; rfl) ?_
    refine (HC.out py px U HI2.out (Nat.le_trans hbase HK2.out.1)).mono ?_
    rintro e W2 ⟨r2, rfl, hA2, hJ2, hQ2⟩
    have hR2 : Kp w W2 S := HK2.out.then_ hQ2 (fun _ h => .inl h)
    have b0 : W2.cell? ⟨hb, 0, none⟩ = some (.func (.func F) #[] cp) := cell_kp d0 hQ2 HS0.out
    have fx1 : W2.cell? ⟨w.heap.size, 1, none⟩ = some (.int .i64 px) := cell_kp dfx1 hQ2 HS1.out
    have fx2 : W2.cell? ⟨w.heap.size, 2, none⟩ = some (.int .i64 cx) := cell_kp dfx2 hQ2 HS1.out
    have fy1 : W2.cell? ⟨w.heap.size + 1, 1, none⟩ = some (.int .i64 py) := cell_kp dfy1 hQ2 HS2.out
    have fy2 : W2.cell? ⟨w.heap.size + 1, 2, none⟩ = some (.int .i64 cy) := cell_kp dfy2 hQ2 HS2.out
    have HA2 := Aside0.mk hA2
    have HJ2 := Aside0.mk hJ2
    have HR2 := Aside0.mk hR2
    clear d0 dfx1 dfx2 dfy1 dfy2 hA2 hJ2 hR2 hQ2
    refine ⟨_, rfl, ?_⟩
    cases r2 with
    | true =>
      go_wp2
      go_ret
      exact ⟨false, rfl, ⟨false, HA1.out, .inr ⟨rfl, true, HA2.out, .inl ⟨rfl, rfl⟩⟩⟩, HJ2.out, HR2.out⟩
    | false =>
    go_wp2
    go_ret
    exact ⟨decide (cx < cy), rfl, ⟨false, HA1.out, .inr ⟨rfl, false, HA2.out, .inr ⟨rfl, rfl⟩⟩⟩, HJ2.out, HR2.out⟩
  · generalize hW : World.drew _ = W
    have hkw : Kp w W S := by rw [← hW]; exact (((Kp.refl w S).alloc _).alloc _).drew
    have hIW : I W := HL.out.stable w W HI.out (fun k hk => by rw [← hW]; simp only [World.drew, World.alloc]; rw [Array.getElem?_push_lt (by simp; omega), Array.getElem_push_lt (by omega), Array.getElem?_eq_getElem (by omega)])
    have b0 : W.cell? ⟨hb, 0, none⟩ = some (.func (.func F) #[] cp) := by rw [← hW]; exact cell_alloc (cell_alloc c0)
    have fx1 : W.cell? ⟨w.heap.size + 1, 1, none⟩ = some (.int .i64 px) := by rw [← hW]; exact (two_snd w _ _ _ _ 1).trans rfl
    have fx2 : W.cell? ⟨w.heap.size + 1, 2, none⟩ = some (.int .i64 cx) := by rw [← hW]; exact (two_snd w _ _ _ _ 2).trans rfl
    have fy1 : W.cell? ⟨w.heap.size, 1, none⟩ = some (.int .i64 py) := by rw [← hW]; exact (two_fst w _ _ _ _ 1).trans rfl
    have fy2 : W.cell? ⟨w.heap.size, 2, none⟩ = some (.int .i64 cy) := by rw [← hW]; exact (two_fst w _ _ _ _ 2).trans rfl
    clear hW c0 c1
    refine wp_region_still_tail 8 (by kernel_rfl) (by kernel_rfl) ?_
    have d0 : W.drew.cell? ⟨hb, 0, none⟩ = some (.func (.func F) #[] cp) := b0
    have dfx1 : W.drew.cell? ⟨w.heap.size + 1, 1, none⟩ = some (.int .i64 px) := fx1
    have dfx2 : W.drew.cell? ⟨w.heap.size + 1, 2, none⟩ = some (.int .i64 cx) := fx2
    have dfy1 : W.drew.cell? ⟨w.heap.size, 1, none⟩ = some (.int .i64 py) := fy1
    have dfy2 : W.drew.cell? ⟨w.heap.size, 2, none⟩ = some (.int .i64 cy) := fy2
    have hk1 : Kp w W.drew S := hkw.drew
    have hI1 : I W.drew := HL.out.stable W _ hIW (fun _ _ => rfl)
    change wpStill _ _ W.drew (fun a' => wpList _ _ _ _ a' W.drew) _ _
    clear b0 fx1 fx2 fy1 fy2
    generalize W.drew = U at d0 dfx1 dfx2 dfy1 dfy2 hk1 hI1 ⊢
    clear hkw hIW
    have HK1 := Aside0.mk hk1
    have HI1 := Aside0.mk hI1
    clear hk1 hI1
    simp only [List.take_succ_cons, List.take_zero, List.drop_succ_cons, List.drop_zero]
    repeat still_step
    refine wpStill_nil ?_
    refine goesV_ rfl (.tmp 27) #[.tmp 29, .tmp 31] #[3, 3] rfl cp rfl HF.out HN.out HD.out #[.int .i64 px, .int .i64 py] (by simp only [List.map_toArray, List.map_cons, List.map_nil]; rfl) ?_
    refine (HC.out px py U HI1.out (Nat.le_trans hbase HK1.out.1)).mono ?_
    rintro e W1 ⟨r1, rfl, hA1, hJ1, hQ1⟩
    have hR1 : Kp w W1 S := HK1.out.then_ hQ1 (fun _ h => .inl h)
    have b0 : W1.cell? ⟨hb, 0, none⟩ = some (.func (.func F) #[] cp) := cell_kp d0 hQ1 HS0.out
    have fx1 : W1.cell? ⟨w.heap.size + 1, 1, none⟩ = some (.int .i64 px) := cell_kp dfx1 hQ1 HS2.out
    have fx2 : W1.cell? ⟨w.heap.size + 1, 2, none⟩ = some (.int .i64 cx) := cell_kp dfx2 hQ1 HS2.out
    have fy1 : W1.cell? ⟨w.heap.size, 1, none⟩ = some (.int .i64 py) := cell_kp dfy1 hQ1 HS1.out
    have fy2 : W1.cell? ⟨w.heap.size, 2, none⟩ = some (.int .i64 cy) := cell_kp dfy2 hQ1 HS1.out
    have HA1 := Aside0.mk hA1
    have HJ1 := Aside0.mk hJ1
    have HR1 := Aside0.mk hR1
    clear d0 dfx1 dfx2 dfy1 dfy2 hA1 hJ1 hR1 hQ1
    refine ⟨_, rfl, ?_⟩
    cases r1 with
    | true =>
      go_wp2
      go_ret
      exact ⟨true, rfl, ⟨true, HA1.out, .inl ⟨rfl, rfl⟩⟩, HJ1.out, HR1.out⟩
    | false =>
    go_wp2
    have hL1 := HR1.out
    have hM1 := HJ1.out
    refine wp_region_still_tail 8 (by kernel_rfl) (by kernel_rfl) ?_
    have d0 : W1.drew.cell? ⟨hb, 0, none⟩ = some (.func (.func F) #[] cp) := b0
    have dfx1 : W1.drew.cell? ⟨w.heap.size + 1, 1, none⟩ = some (.int .i64 px) := fx1
    have dfx2 : W1.drew.cell? ⟨w.heap.size + 1, 2, none⟩ = some (.int .i64 cx) := fx2
    have dfy1 : W1.drew.cell? ⟨w.heap.size, 1, none⟩ = some (.int .i64 py) := fy1
    have dfy2 : W1.drew.cell? ⟨w.heap.size, 2, none⟩ = some (.int .i64 cy) := fy2
    have hk2 : Kp w W1.drew S := hL1.drew
    have hI2 : I W1.drew := HL.out.stable W1 _ hM1 (fun _ _ => rfl)
    change wpStill _ _ W1.drew (fun a' => wpList _ _ _ _ a' W1.drew) _ _
    clear b0 fx1 fx2 fy1 fy2
    generalize W1.drew = U at d0 dfx1 dfx2 dfy1 dfy2 hk2 hI2 ⊢
    clear hL1 hM1
    have HK2 := Aside0.mk hk2
    have HI2 := Aside0.mk hI2
    clear hk2 hI2
    simp only [List.take_succ_cons, List.take_zero, List.drop_succ_cons, List.drop_zero]
    repeat still_step
    refine wpStill_nil ?_
    refine goesV_ rfl (.tmp 37) #[.tmp 39, .tmp 41] #[3, 3] rfl cp rfl HF.out HN.out HD.out #[.int .i64 py, .int .i64 px] (by simp only [List.map_toArray, List.map_cons, List.map_nil]; rfl) ?_
    refine (HC.out py px U HI2.out (Nat.le_trans hbase HK2.out.1)).mono ?_
    rintro e W2 ⟨r2, rfl, hA2, hJ2, hQ2⟩
    have hR2 : Kp w W2 S := HK2.out.then_ hQ2 (fun _ h => .inl h)
    have b0 : W2.cell? ⟨hb, 0, none⟩ = some (.func (.func F) #[] cp) := cell_kp d0 hQ2 HS0.out
    have fx1 : W2.cell? ⟨w.heap.size + 1, 1, none⟩ = some (.int .i64 px) := cell_kp dfx1 hQ2 HS2.out
    have fx2 : W2.cell? ⟨w.heap.size + 1, 2, none⟩ = some (.int .i64 cx) := cell_kp dfx2 hQ2 HS2.out
    have fy1 : W2.cell? ⟨w.heap.size, 1, none⟩ = some (.int .i64 py) := cell_kp dfy1 hQ2 HS1.out
    have fy2 : W2.cell? ⟨w.heap.size, 2, none⟩ = some (.int .i64 cy) := cell_kp dfy2 hQ2 HS1.out
    have HA2 := Aside0.mk hA2
    have HJ2 := Aside0.mk hJ2
    have HR2 := Aside0.mk hR2
    clear d0 dfx1 dfx2 dfy1 dfy2 hA2 hJ2 hR2 hQ2
    refine ⟨_, rfl, ?_⟩
    cases r2 with
    | true =>
      go_wp2
      go_ret
      exact ⟨false, rfl, ⟨false, HA1.out, .inr ⟨rfl, true, HA2.out, .inl ⟨rfl, rfl⟩⟩⟩, HJ2.out, HR2.out⟩
    | false =>
    go_wp2
    go_ret
    exact ⟨decide (cx < cy), rfl, ⟨false, HA1.out, .inr ⟨rfl, false, HA2.out, .inr ⟨rfl, rfl⟩⟩⟩, HJ2.out, HR2.out⟩
end Go.Proofs.Ytiocnkoogachkaa.Hii
