/- This text walks the heap's functions over keys and ranks of one kind (ii): printed by gen.py. -/
import Derived.Test.YtiocnkoogachkaaHu
import Derived.Test.YtiocnkoogachkaaHaii
import Derived.Test.YtiocnkoogachkaaHsii
namespace Go.Proofs.Ytiocnkoogachkaa.Hii
open Go.RowKit Go.Proofs.YtiocnkoogachkaaW.PrintWords Go.Proofs.Ytiocnkoogachkaa.Mp Go.Proofs.Ytiocnkoogachkaa.Hp
set_option linter.unusedVariables false
set_option linter.unusedSimpArgs false
/-- 'ahead' over a heap that lies in memory. -/
theorem ahead_rep {A : Int → Int → Bool → Prop} {I : World → Prop} {S : Nat → Prop} {base : Nat} {lv : Value} (L : LessOk Try.prog (Value.int .i64) A lv I S base)
    (hb pb : Nat) (sv : Value) (L0 : List (It Int Int)) (c : Int) (w : World) (i j : Nat) (x y : It Int Int) (hx : L0[i]? = some x) (hy : L0[j]? = some y) (R : Rep F w base hb pb lv sv L0 c) (hI : I w) :
    Calls Try.prog 50 #[.pointer (some ⟨hb, 0, none⟩), .int .i64 i, .int .i64 j] w fun e w' => ∃ r, e = .returned (.bool r) ∧ Ahead A x y r ∧ I w' ∧ Kp w w' S := by
  have hi := (List.getElem?_eq_some_iff.1 hx).1
  have hj := (List.getElem?_eq_some_iff.1 hy).1
  obtain ⟨g, cap, rfl⟩ := R.slice (by omega)
  exact ahead_calls L hb g i j L0.length cap x y w hi hj hI R.size R.hbase ((blk_cell R.head 0).trans rfl) ((blk_cell R.head 1).trans rfl)
    (own_cell R.own _ _ ((flat_get F L0 i 0 x hx (by decide)).trans rfl))
    (own_cell R.own _ _ ((flat_get F L0 i 1 x hx (by decide)).trans rfl))
    (own_cell R.own _ _ ((flat_get F L0 i 2 x hx (by decide)).trans rfl))
    (own_cell R.own _ _ ((flat_get F L0 j 0 y hy (by decide)).trans rfl))
    (own_cell R.own _ _ ((flat_get F L0 j 1 y hy (by decide)).trans rfl))
    (own_cell R.own _ _ ((flat_get F L0 j 2 y hy (by decide)).trans rfl))
set_option maxHeartbeats 1000000 in
set_option maxRecDepth 100000 in
theorem up_calls {A : Int → Int → Bool → Prop} {I : World → Prop} {S : Nat → Prop} {base : Nat} {lv : Value} (L : LessOk Try.prog (Value.int .i64) A lv I S base)
    (hb pb : Nat) (sv : Value) (L0 : List (It Int Int)) (c : Int) (w : World) (i : Nat) (hi : i < L0.length) (hn : L0.length ≤ 4611686018427387904) (R : Rep F w base hb pb lv sv L0 c) (hI : I w) :
    Calls Try.prog 47 #[.pointer (some ⟨hb, 0, none⟩), .int .i64 i] w fun e w' => e = .returned (.tuple #[]) ∧ ∃ L1, UpR A L0 i L1 ∧ Rep F w' base hb pb lv sv L1 c ∧ L1.Perm L0 ∧ I w' ∧ Kp w w' (fun k => Mine hb pb sv k ∨ S k) := by
  have HL := Aside0.mk L
  have HR := Aside0.mk R
  have HI := Aside0.mk hI
  have HN := Aside0.mk hn
  have Hi := Aside0.mk hi
  clear R hI L hn hi
  go_enter Try.func47, Try.ntmps47
  go_wp2
  go_loopw [1] (fun iv wr => ∃ (k : Nat) (L1 : List (It Int Int)), iv = .int .i64 k ∧ Aside0 (k < L1.length) ∧ Aside0 (Rep F wr base hb pb lv sv L1 c) ∧ Aside0 (L1.Perm L0) ∧ Aside0 (I wr) ∧ Aside0 (Kp w wr (fun k => Mine hb pb sv k ∨ S k)) ∧ Aside0 (∀ L2, UpR A L1 k L2 → UpR A L0 i L2)) (fun iv _ => (intOf iv).toNat)
  case atStart => exact ⟨i, L0, rfl, Hi, HR, ⟨List.Perm.refl _⟩, HI, ⟨Kp.refl _ _⟩, ⟨fun _ h => h⟩⟩
  case round =>
    obtain ⟨k, L1, rfl, Hk, HR1, HP, HI1, HK1, HU⟩ := hrel
    clear HR HI Hi
    by_cases h0 : 0 < k
    · obtain ⟨p, hp⟩ : ∃ p, p = (k - 1) / 2 := ⟨_, rfl⟩
      have hkn : k < 4611686018427387904 := by have := HP.out.length_eq; have := Hk.out; have := HN.out; omega
      have hpk : p < k := by omega
      have hq : ((k : Int) - 1).tdiv 2 = (p : Int) := by rw [Int.tdiv_eq_ediv_of_nonneg (by omega)]; omega
      obtain ⟨x, hx⟩ : ∃ x, L1[k]? = some x := ⟨_, List.getElem?_eq_getElem Hk.out⟩
      obtain ⟨y, hy⟩ : ∃ y, L1[p]? = some y := ⟨_, List.getElem?_eq_getElem (by have := Hk.out; omega)⟩
      have HX := Aside0.mk hx
      have HY := Aside0.mk hy
      have HE := Aside0.mk hp
      clear hx hy hp
      go_wp2_with fail
      refine (ahead_rep HL.out hb pb sv L1 c wr k p x y HX.out HY.out HR1.out HI1.out).mono ?_
      rintro e w1 ⟨r, rfl, hA, hI1, hK1⟩
      have HA := Aside0.mk hA
      have HJ := Aside0.mk hI1
      have HR2 := Aside0.mk (HR1.out.kept hK1 (fun k hk => HR1.out.low (HL.out.low k hk)))
      have HK2 : Aside0 (Kp w w1 (fun k => Mine hb pb sv k ∨ S k)) := ⟨HK1.out.then_ hK1 (fun k hk => .inl (.inr hk))⟩
      clear hA hI1 hK1 HR1 HI1 HK1
      cases r with
      | false =>
        go_wp2
        go_end0
        exact ⟨rfl, L1, HU.out _ (by have e := HE.out; subst e; exact .stop h0 HX.out HY.out HA.out), HR2.out, HP.out, HJ.out, HK2.out⟩
      | true =>
      go_wp2_with fail
      refine (swap_calls base hb pb lv sv L1 c w1 k p Hk.out (by have := Hk.out; omega) HR2.out).mono ?_
      rintro e w2 ⟨rfl, hR3, hK3⟩
      have HR3 := Aside0.mk hR3
      have HK3 : Aside0 (Kp w w2 (fun k => Mine hb pb sv k ∨ S k)) := ⟨HK2.out.then_ hK3 (fun k hk => .inl (.inl (.inr hk)))⟩
      have HJ3 : Aside0 (I w2) := ⟨HL.out.stable _ _ HJ.out (fun k hk => kept_low HR2.out (hK3.mono (fun k hk => .inr hk)) hk)⟩
      clear hR3 hK3 HR2 HK2 HJ
      go_wp2
      go_roundw
      case measure => simp [intOf]; omega
      case rel => exact ⟨p, swp L1 k p, by go_num, ⟨by rw [swp_len]; have := Hk.out; omega⟩, HR3, ⟨(swp_perm HX.out HY.out).trans HP.out⟩, HJ3, HK3, ⟨fun L2 h => HU.out _ (by have e := HE.out; subst e; exact .go h0 HX.out HY.out HA.out h)⟩⟩
    · obtain rfl : k = 0 := by omega
      go_wp2
      go_end0
      exact ⟨rfl, L1, HU.out _ (.top _), HR1.out, HP.out, HI1.out, HK1.out⟩
end Go.Proofs.Ytiocnkoogachkaa.Hii
