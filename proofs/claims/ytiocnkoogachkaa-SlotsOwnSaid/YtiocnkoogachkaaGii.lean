/- This text walks the heap's functions over numbers: rising, sinking, and the calls: printed by gen.py, laid together by merge.py. -/
import Derived.Test.YtiocnkoogachkaaHu
import Derived.Test.YtiocnkoogachkaaHaii
import Derived.Test.YtiocnkoogachkaaHsii
import Derived.Test.YtiocnkoogachkaaHw
import Derived.Test.YtiocnkoogachkaaHputii
namespace Go.Proofs.Ytiocnkoogachkaa.Hii
open Go.RowKit Go.Proofs.YtiocnkoogachkaaW.PrintWords Go.Proofs.Ytiocnkoogachkaa.Mp Go.Proofs.Ytiocnkoogachkaa.Hp
set_option linter.unusedVariables false
set_option linter.unusedSimpArgs false
/-- 'ahead' over a heap that lies in memory. -/
theorem ahead_rep {A : Int → Int → Bool → Prop} {I : World → Prop} {S : Nat → Prop} {base : Nat} {lv : Value} (L : LessOk Try.prog (Value.int .i64) A lv I S base)
    (hb pb : Nat) (sv : Value) (L0 : List (It Int Int)) (c : Int) (w : World) (i j : Nat) (x y : It Int Int) (hx : L0[i]? = some x) (hy : L0[j]? = some y) (R : Rep F w base hb pb lv sv L0 c) (hI : I w) :
    Calls Try.prog 50 #[.pointer (some ⟨hb, 0, none⟩), .int .i64 i, .int .i64 j] w fun e w' => ∃ r, e = .returned (.bool r) ∧ Ahead A x y r ∧ I w' ∧ Kp w w' S := by
  have hi := (List.getElem?_eq_some_iff.1 hx).1
  have hj := (List.getElem?_eq_some_iff.1 hy).1
  obtain ⟨g, cap, rfl⟩ := R.slice (by omega)
  exact ahead_calls L hb g i j L0.length cap x y w hi hj hI R.size R.hbase ((blk_cell R.head 0).trans rfl) ((blk_cell R.head 1).trans rfl)
    (own_cell R.own _ _ ((flat_get F L0 i 0 x hx (by decide)).trans rfl))
    (own_cell R.own _ _ ((flat_get F L0 i 1 x hx (by decide)).trans rfl))
    (own_cell R.own _ _ ((flat_get F L0 i 2 x hx (by decide)).trans rfl))
    (own_cell R.own _ _ ((flat_get F L0 j 0 y hy (by decide)).trans rfl))
    (own_cell R.own _ _ ((flat_get F L0 j 1 y hy (by decide)).trans rfl))
    (own_cell R.own _ _ ((flat_get F L0 j 2 y hy (by decide)).trans rfl))
set_option maxHeartbeats 1000000 in
set_option maxRecDepth 100000 in
theorem up_calls {A : Int → Int → Bool → Prop} {I : World → Prop} {S : Nat → Prop} {base : Nat} {lv : Value} (L : LessOk Try.prog (Value.int .i64) A lv I S base)
    (hb pb : Nat) (sv : Value) (L0 : List (It Int Int)) (c : Int) (w : World) (i : Nat) (hi : i < L0.length) (hn : L0.length ≤ 4611686018427387904) (R : Rep F w base hb pb lv sv L0 c) (hI : I w) :
    Calls Try.prog 47 #[.pointer (some ⟨hb, 0, none⟩), .int .i64 i] w fun e w' => e = .returned (.tuple #[]) ∧ ∃ L1, UpR A L0 i L1 ∧ Rep F w' base hb pb lv sv L1 c ∧ L1.Perm L0 ∧ I w' ∧ Kp w w' (fun k => Mine hb pb sv k ∨ S k) := by
  have HL := Aside0.mk L
  have HR := Aside0.mk R
  have HI := Aside0.mk hI
  have HN := Aside0.mk hn
  have Hi := Aside0.mk hi
  clear R hI L hn hi
  go_enter Try.func47, Try.ntmps47
  go_wp2
  go_loopw [1] (fun iv wr => ∃ (k : Nat) (L1 : List (It Int Int)), iv = .int .i64 k ∧ Aside0 (k < L1.length) ∧ Aside0 (Rep F wr base hb pb lv sv L1 c) ∧ Aside0 (L1.Perm L0) ∧ Aside0 (I wr) ∧ Aside0 (Kp w wr (fun k => Mine hb pb sv k ∨ S k)) ∧ Aside0 (∀ L2, UpR A L1 k L2 → UpR A L0 i L2)) (fun iv _ => (intOf iv).toNat)
  case atStart => exact ⟨i, L0, rfl, Hi, HR, ⟨List.Perm.refl _⟩, HI, ⟨Kp.refl _ _⟩, ⟨fun _ h => h⟩⟩
  case round =>
    obtain ⟨k, L1, rfl, Hk, HR1, HP, HI1, HK1, HU⟩ := hrel
    clear HR HI Hi
    by_cases h0 : 0 < k
    · obtain ⟨p, hp⟩ : ∃ p, p = (k - 1) / 2 := ⟨_, rfl⟩
      have hkn : k < 4611686018427387904 := by have := HP.out.length_eq; have := Hk.out; have := HN.out; omega
      have hpk : p < k := by omega
      have hq : ((k : Int) - 1).tdiv 2 = (p : Int) := by rw [Int.tdiv_eq_ediv_of_nonneg (by omega)]; omega
      obtain ⟨x, hx⟩ : ∃ x, L1[k]? = some x := ⟨_, List.getElem?_eq_getElem Hk.out⟩
      obtain ⟨y, hy⟩ : ∃ y, L1[p]? = some y := ⟨_, List.getElem?_eq_getElem (by have := Hk.out; omega)⟩
      have HX := Aside0.mk hx
      have HY := Aside0.mk hy
      have HE := Aside0.mk hp
      clear hx hy hp
      go_wp2_with fail
      refine (ahead_rep HL.out hb pb sv L1 c wr k p x y HX.out HY.out HR1.out HI1.out).mono ?_
      rintro e w1 ⟨r, rfl, hA, hI1, hK1⟩
      have HA := Aside0.mk hA
      have HJ := Aside0.mk hI1
      have HR2 := Aside0.mk (HR1.out.kept hK1 (fun k hk => HR1.out.low (HL.out.low k hk)))
      have HK2 : Aside0 (Kp w w1 (fun k => Mine hb pb sv k ∨ S k)) := ⟨HK1.out.then_ hK1 (fun k hk => .inl (.inr hk))⟩
      clear hA hI1 hK1 HR1 HI1 HK1
      cases r with
      | false =>
        go_wp2
        go_end0
        exact ⟨rfl, L1, HU.out _ (by have e := HE.out; subst e; exact .stop h0 HX.out HY.out HA.out), HR2.out, HP.out, HJ.out, HK2.out⟩
      | true =>
      go_wp2_with fail
      refine (swap_calls base hb pb lv sv L1 c w1 k p Hk.out (by have := Hk.out; omega) HR2.out).mono ?_
      rintro e w2 ⟨rfl, hR3, hK3⟩
      have HR3 := Aside0.mk hR3
      have HK3 : Aside0 (Kp w w2 (fun k => Mine hb pb sv k ∨ S k)) := ⟨HK2.out.then_ hK3 (fun k hk => .inl (.inl (.inr hk)))⟩
      have HJ3 : Aside0 (I w2) := ⟨HL.out.stable _ _ HJ.out (fun k hk => kept_low HR2.out (hK3.mono (fun k hk => .inr hk)) hk)⟩
      clear hR3 hK3 HR2 HK2 HJ
      go_wp2
      go_roundw
      case measure => simp [intOf]; omega
      case rel => exact ⟨p, swp L1 k p, by go_num, ⟨by rw [swp_len]; have := Hk.out; omega⟩, HR3, ⟨(swp_perm HX.out HY.out).trans HP.out⟩, HJ3, HK3, ⟨fun L2 h => HU.out _ (by have e := HE.out; subst e; exact .go h0 HX.out HY.out HA.out h)⟩⟩
    · obtain rfl : k = 0 := by omega
      go_wp2
      go_end0
      exact ⟨rfl, L1, HU.out _ (.top _), HR1.out, HP.out, HI1.out, HK1.out⟩
end Go.Proofs.Ytiocnkoogachkaa.Hii
namespace Go.Proofs.Ytiocnkoogachkaa.Hii
open Go.RowKit Go.Proofs.YtiocnkoogachkaaW.PrintWords Go.Proofs.Ytiocnkoogachkaa.Mp Go.Proofs.Ytiocnkoogachkaa.Hp
set_option linter.unusedVariables false
set_option linter.unusedSimpArgs false
set_option maxHeartbeats 2000000 in
set_option maxRecDepth 100000 in
theorem down_calls {A : Int → Int → Bool → Prop} {I : World → Prop} {S : Nat → Prop} {base : Nat} {lv : Value} (L : LessOk Try.prog (Value.int .i64) A lv I S base)
    (hb pb : Nat) (sv : Value) (L0 : List (It Int Int)) (c : Int) (w : World) (i : Nat) (hi : i < L0.length) (hn : L0.length ≤ 1152921504606846976) (R : Rep F w base hb pb lv sv L0 c) (hI : I w) :
    Calls Try.prog 49 #[.pointer (some ⟨hb, 0, none⟩), .int .i64 i] w fun e w' => e = .returned (.tuple #[]) ∧ ∃ L1, DownR A L0 i L1 ∧ Rep F w' base hb pb lv sv L1 c ∧ L1.Perm L0 ∧ I w' ∧ Kp w w' (fun k => Mine hb pb sv k ∨ S k) := by
  have HL := Aside0.mk L
  have HR := Aside0.mk R
  have HI := Aside0.mk hI
  have HN := Aside0.mk hn
  have Hi := Aside0.mk hi
  clear R hI L hn hi
  have hx0 : ∀ (a b : Value) (W : World), (Instr.index 89 (.agg #[a, b]) (.int .i64 0)).run Try.prog W = .ok a W := fun _ _ _ => by kernel_rfl
  have hx1 : ∀ (a b : Value) (W : World), (Instr.index 89 (.agg #[a, b]) (.int .i64 1)).run Try.prog W = .ok b W := fun _ _ _ => by kernel_rfl
  go_enter Try.func49, Try.ntmps49
  go_wp2
  go_loopw [1] (fun iv wr => ∃ (k : Nat) (L1 : List (It Int Int)), iv = .int .i64 k ∧ Aside0 (k < L1.length) ∧ Aside0 (Rep F wr base hb pb lv sv L1 c) ∧ Aside0 (L1.Perm L0) ∧ Aside0 (I wr) ∧ Aside0 (Kp w wr (fun k => Mine hb pb sv k ∨ S k)) ∧ Aside0 (∀ L2, DownR A L1 k L2 → DownR A L0 i L2)) (fun iv _ => L0.length - (intOf iv).toNat)
  case atStart => exact ⟨i, L0, rfl, Hi, HR, ⟨List.Perm.refl _⟩, HI, ⟨Kp.refl _ _⟩, ⟨fun _ h => h⟩⟩
  case round =>
    obtain ⟨k, L1, rfl, Hk, HR1, HP, HI1, HK1, HU⟩ := hrel
    clear HR HI Hi
    have hkn : k < 1152921504606846976 := by have := HP.out.length_eq; have := Hk.out; have := HN.out; omega
    go_wp2
    go_loopw [4, 15] (fun lv2 qv wq => ∃ (q m : Nat), q ≤ 2 ∧ m ≤ 2305843009213693954 ∧ lv2 = .int .i64 m ∧ qv = .int .i64 q ∧ Aside0 (m < L1.length) ∧ Aside0 (Rep F wq base hb pb lv sv L1 c) ∧ Aside0 (I wq) ∧ Aside0 (Kp w wq (fun k => Mine hb pb sv k ∨ S k)) ∧ Aside0 ((q = 0 ∧ m = k) ∨ (q = 1 ∧ Pick A L1 k (2 * k + 1) m) ∨ (q = 2 ∧ ∃ m1, Pick A L1 k (2 * k + 1) m1 ∧ Pick A L1 m1 (2 * k + 2) m))) (fun _ qv _ => 2 - (intOf qv).toNat)
    case atStart => exact ⟨0, k, by omega, by omega, rfl, rfl, Hk, HR1, HI1, HK1, ⟨.inl ⟨rfl, rfl⟩⟩⟩
    case round =>
      clear HR1 HI1 HK1
      obtain ⟨q, m, hq2, hmn, rfl, rfl, Hm, HR1, HI1, HK1, HC⟩ := hrel
      by_cases hlt : q < 2
      · rcases (show q = 0 ∨ q = 1 by omega) with rfl | rfl
        · obtain ⟨hm0⟩ : Aside0 (k = m) := ⟨by rcases HC.out with ⟨_, h⟩ | ⟨h, _⟩ | ⟨h, _⟩; exact h.symm; cases h; cases h⟩
          subst hm0
          by_cases hkid : 2 * k + 1 < L1.length
          · obtain ⟨x, hx⟩ : ∃ x, L1[2 * k + 1]? = some x := ⟨_, List.getElem?_eq_getElem hkid⟩
            obtain ⟨y, hy⟩ : ∃ y, L1[k]? = some y := ⟨_, List.getElem?_eq_getElem Hm.out⟩
            obtain ⟨g, cap, hsv⟩ := HR1.out.slice (by omega)
            have c1 : wr.cell? ⟨hb, 1, none⟩ = some (.slice (some ⟨g, 0, none⟩) L1.length cap) := (blk_cell HR1.out.head 1).trans (by rw [hsv]; rfl)
            have t1 : decide (2 * (k : Int) + 1 < (L1.length : Int)) = true := by simp; omega
            have HX := Aside0.mk hx
            have HY := Aside0.mk hy
            clear hx hy hsv
            go_wp2_with fail
            refine (ahead_rep HL.out hb pb sv L1 c _ (2 * k + 1) k x y HX.out HY.out HR1.out HI1.out).mono ?_
            rintro e w1 ⟨r, rfl, hA, hI1, hK1⟩
            have HA := Aside0.mk hA
            have HJ := Aside0.mk hI1
            have HR2 := Aside0.mk (HR1.out.kept hK1 (fun k hk => HR1.out.low (HL.out.low k hk)))
            have HK2 : Aside0 (Kp w w1 (fun k => Mine hb pb sv k ∨ S k)) := ⟨HK1.out.then_ hK1 (fun k hk => .inl (.inr hk))⟩
            clear hA hI1 hK1 HR1 HI1 HK1
            cases r with
            | false =>
              go_wp2
              go_roundw
              case measure => simp [intOf]
              case rel => exact ⟨1, k, by omega, by omega, rfl, by go_num, Hm, HR2, HJ, HK2, ⟨.inr (.inl ⟨rfl, (.inr ⟨x, y, false, HX.out, HY.out, HA.out, rfl⟩)⟩)⟩⟩
            | true =>
              go_wp2
              go_roundw
              case measure => simp [intOf]
              case rel => exact ⟨1, 2 * k + 1, by omega, by omega, by go_num, by go_num, ⟨hkid⟩, HR2, HJ, HK2, ⟨.inr (.inl ⟨rfl, (.inr ⟨x, y, true, HX.out, HY.out, HA.out, rfl⟩)⟩)⟩⟩
          · have t1 : decide (2 * (k : Int) + 1 < (L1.length : Int)) = false := by simp; omega
            have c1 : ∃ sv2 cap, wr.cell? ⟨hb, 1, none⟩ = some (.slice sv2 L1.length cap) := by
              obtain ⟨g, cap, hsv⟩ := HR1.out.slice (by have := Hm.out; omega)
              exact ⟨some ⟨g, 0, none⟩, cap, (blk_cell HR1.out.head 1).trans (by rw [hsv]; rfl)⟩
            obtain ⟨sv2, cap, c1⟩ := c1
            go_wp2
            go_roundw
            case measure => simp [intOf]
            case rel => exact ⟨1, k, by omega, by omega, rfl, by go_num, Hm, HR1, HI1, HK1, ⟨.inr (.inl ⟨rfl, (.inl ⟨by omega, rfl⟩)⟩)⟩⟩
        · have HQ : Aside0 (Pick A L1 k (2 * k + 1) m) := ⟨by rcases HC.out with ⟨h, _⟩ | ⟨_, h⟩ | ⟨h, _⟩; cases h; exact h; cases h⟩
          by_cases hkid : 2 * k + 2 < L1.length
          · obtain ⟨x, hx⟩ : ∃ x, L1[2 * k + 2]? = some x := ⟨_, List.getElem?_eq_getElem hkid⟩
            obtain ⟨y, hy⟩ : ∃ y, L1[m]? = some y := ⟨_, List.getElem?_eq_getElem Hm.out⟩
            obtain ⟨g, cap, hsv⟩ := HR1.out.slice (by omega)
            have c1 : wr.cell? ⟨hb, 1, none⟩ = some (.slice (some ⟨g, 0, none⟩) L1.length cap) := (blk_cell HR1.out.head 1).trans (by rw [hsv]; rfl)
            have t1 : decide (2 * (k : Int) + 2 < (L1.length : Int)) = true := by simp; omega
            have HX := Aside0.mk hx
            have HY := Aside0.mk hy
            clear hx hy hsv
            go_wp2_with fail
            refine (ahead_rep HL.out hb pb sv L1 c _ (2 * k + 2) m x y HX.out HY.out HR1.out HI1.out).mono ?_
            rintro e w1 ⟨r, rfl, hA, hI1, hK1⟩
            have HA := Aside0.mk hA
            have HJ := Aside0.mk hI1
            have HR2 := Aside0.mk (HR1.out.kept hK1 (fun k hk => HR1.out.low (HL.out.low k hk)))
            have HK2 : Aside0 (Kp w w1 (fun k => Mine hb pb sv k ∨ S k)) := ⟨HK1.out.then_ hK1 (fun k hk => .inl (.inr hk))⟩
            clear hA hI1 hK1 HR1 HI1 HK1
            cases r with
            | false =>
              go_wp2
              go_roundw
              case measure => simp [intOf]
              case rel => exact ⟨2, m, by omega, by omega, rfl, by go_num, Hm, HR2, HJ, HK2, ⟨.inr (.inr ⟨rfl, m, HQ.out, (.inr ⟨x, y, false, HX.out, HY.out, HA.out, rfl⟩)⟩)⟩⟩
            | true =>
              go_wp2
              go_roundw
              case measure => simp [intOf]
              case rel => exact ⟨2, 2 * k + 2, by omega, by omega, by go_num, by go_num, ⟨hkid⟩, HR2, HJ, HK2, ⟨.inr (.inr ⟨rfl, m, HQ.out, (.inr ⟨x, y, true, HX.out, HY.out, HA.out, rfl⟩)⟩)⟩⟩
          · have t1 : decide (2 * (k : Int) + 2 < (L1.length : Int)) = false := by simp; omega
            have c1 : ∃ sv2 cap, wr.cell? ⟨hb, 1, none⟩ = some (.slice sv2 L1.length cap) := by
              obtain ⟨g, cap, hsv⟩ := HR1.out.slice (by have := Hm.out; omega)
              exact ⟨some ⟨g, 0, none⟩, cap, (blk_cell HR1.out.head 1).trans (by rw [hsv]; rfl)⟩
            obtain ⟨sv2, cap, c1⟩ := c1
            go_wp2
            go_roundw
            case measure => simp [intOf]
            case rel => exact ⟨2, m, by omega, by omega, rfl, by go_num, Hm, HR1, HI1, HK1, ⟨.inr (.inr ⟨rfl, m, HQ.out, (.inl ⟨by omega, rfl⟩)⟩)⟩⟩
      · obtain rfl : q = 2 := by omega
        have HQ : Aside0 (∃ m1, Pick A L1 k (2 * k + 1) m1 ∧ Pick A L1 m1 (2 * k + 2) m) := ⟨by rcases HC.out with ⟨h, _⟩ | ⟨h, _⟩ | ⟨_, h⟩; cases h; cases h; exact h⟩
        clear HC
        by_cases hmk : m = k
        · have te : ((m : Int) == (k : Int)) = true := by simp; omega
          have HE := Aside0.mk hmk
          clear hmk
          go_wp2
          refine bodyPost_ret (results_none rfl _ _ _) rfl ?_
          exact ⟨rfl, L1, HU.out _ (by obtain ⟨m1, h1, h2⟩ := HQ.out; have e := HE.out; subst e; exact .stop h1 h2), HR1.out, HP.out, HI1.out, HK1.out⟩
        · have te : ((m : Int) == (k : Int)) = false := by simp; omega
          obtain ⟨x, hx⟩ : ∃ x, L1[k]? = some x := ⟨_, List.getElem?_eq_getElem Hk.out⟩
          obtain ⟨y, hy⟩ : ∃ y, L1[m]? = some y := ⟨_, List.getElem?_eq_getElem Hm.out⟩
          have HX := Aside0.mk hx
          have HY := Aside0.mk hy
          clear hx hy
          go_wp2_with fail
          refine (swap_calls base hb pb lv sv L1 c _ k m Hk.out Hm.out HR1.out).mono ?_
          rintro e w2 ⟨rfl, hR3, hK3⟩
          have HR3 := Aside0.mk hR3
          have HK3 : Aside0 (Kp w w2 (fun k => Mine hb pb sv k ∨ S k)) := ⟨HK1.out.then_ hK3 (fun k hk => .inl (.inl (.inr hk)))⟩
          have HJ3 : Aside0 (I w2) := ⟨HL.out.stable _ _ HI1.out (fun k hk => kept_low HR1.out (hK3.mono (fun k hk => .inr hk)) hk)⟩
          have hgt : k < m := by
            obtain ⟨m1, h1, h2⟩ := HQ.out
            rcases h2.cases with h | h
            · rcases h1.cases with h' | h' <;> omega
            · omega
          have hml : m < L0.length := by have := HP.out.length_eq; have := Hm.out; omega
          clear hR3 hK3
          go_wp2
          go_roundw
          case measure => simp [intOf]; omega
          case rel => exact ⟨m, swp L1 k m, by go_num, ⟨by rw [swp_len]; exact Hm.out⟩, HR3, ⟨(swp_perm HX.out HY.out).trans HP.out⟩, HJ3, HK3, ⟨fun L2 h => HU.out _ (by obtain ⟨m1, h1, h2⟩ := HQ.out; exact .go h1 h2 hmk h)⟩⟩
end Go.Proofs.Ytiocnkoogachkaa.Hii
namespace Go.Proofs.Ytiocnkoogachkaa.Hii
open Go.RowKit Go.Proofs.YtiocnkoogachkaaW.PrintWords Go.Proofs.Ytiocnkoogachkaa.Mp Go.Proofs.Ytiocnkoogachkaa.Hp
set_option linter.unusedVariables false
set_option linter.unusedSimpArgs false
theorem push_mid {w : World} {base hb pb : Nat} {lv sv : Value} {L : List (It Int Int)} {c : Int} {x : It Int Int} (R : Rep F w base hb pb lv sv L c) (hx : x.key ∉ keys L) (cc : Int) :
    ∃ W2, (Instr.mapUpdate 81 (.map (some pb)) (.int .i64 x.key) (.int .i64 (L.length : Int))).run Try.prog (w.setCell ⟨hb, 3, none⟩ (.int .i64 cc)).drew = .ok () W2 ∧
      Aside0 (W2.heap[hb]? = some (.cells #[lv, sv, .map (some pb), .int .i64 cc] 84 (0, 0)) ∧ W2.ownsRow base 86 3 sv L.length (flat F L) ∧ MapAt W2 pb F.d F.kv (fun k => (place (L ++ [x]) k).map (fun (i : Nat) => Value.int .i64 (i : Int))) ∧ Kp w W2 (Mine hb pb sv)) := by
  have hph : pb ≠ hb := R.map.ne_cells R.head
  have kp1 : Kp w (w.setCell ⟨hb, 3, none⟩ (.int .i64 cc)).drew (fun k => k = hb) := by
    refine Kp.drew ?_
    refine Kp.setCell ?_ (by left; rfl) _
    exact Kp.refl w _
  have hd1 : (w.setCell ⟨hb, 3, none⟩ (.int .i64 cc)).drew.heap[hb]? = some (.cells #[lv, sv, .map (some pb), .int .i64 cc] 84 (0, 0)) := blk_put R.head 3 _ rfl
  have mp1 := R.map.kept kp1 hph
  obtain ⟨o, hrun, mp2⟩ := mp1.upd F.KV Try.underlying81 Try.underlying3 x.key (.int .i64 (L.length : Int))
  have kp2 : Kp (w.setCell ⟨hb, 3, none⟩ (.int .i64 cc)).drew (setB (w.setCell ⟨hb, 3, none⟩ (.int .i64 cc)).drew pb o) (fun k => k = pb) := setB_kept rfl
  refine ⟨_, hrun, ⟨blk_kp hd1 kp2 hph.symm, ?_, mp2.congr (place_app hx), Kp.then_ (kp1.mono (fun k hk => .inl hk)) kp2 (fun k hk => .inl (.inr (.inl hk)))⟩⟩
  rcases R.own.2 with ⟨hv, hn⟩ | ⟨g, cap, cur, rfl, hbg, hg, _⟩
  · exact ⟨R.own.1, .inl ⟨hv, hn⟩⟩
  · exact (R.own.kept_ kp1 (fun h => blk_ne hg R.head (by decide) h)).kept_ kp2 (fun h => R.map.ne_cells hg h.symm)
theorem push_end {w W2 w3 W4 : World} {base hb pb g2 cap2 : Nat} {lv sv : Value} {L : List (It Int Int)} {c cc : Int} {x : It Int Int} {o : Obj} (R : Rep F w base hb pb lv sv L c) (hx : x.key ∉ keys L)
    (HM : W2.heap[hb]? = some (.cells #[lv, sv, .map (some pb), .int .i64 cc] 84 (0, 0)) ∧ W2.ownsRow base 86 3 sv L.length (flat F L) ∧ MapAt W2 pb F.d F.kv (fun k => (place (L ++ [x]) k).map (fun (i : Nat) => Value.int .i64 (i : Int))) ∧ Kp w W2 (Mine hb pb sv))
    (HH : w3.heap[hb]? = some (.cells #[lv, sv, .map (some pb), .int .i64 cc] 84 (0, 0))) (hown : w3.ownsRow base 86 3 (.slice (some ⟨g2, 0, none⟩) (L.length + 1) cap2) (L.length + 1) (flat F L ++ F.f x))
    (hgrow : ((W2.alloc o).drew).grownBy w3 sv.ownBlock) (hloc : (Value.slice (some ⟨g2, 0, none⟩) (L.length + 1) cap2).ownBlock = sv.ownBlock ∨ (Value.slice (some ⟨g2, 0, none⟩) (L.length + 1) cap2).ownBlock = some ((W2.alloc o).drew).heap.size)
    (hW : w3.setCell ⟨hb, 1, none⟩ (.slice (some ⟨g2, 0, none⟩) (L.length + 1) cap2) = W4) :
    Rep F W4 base hb pb lv (.slice (some ⟨g2, 0, none⟩) (L.length + 1) cap2) (L ++ [x]) cc ∧ Kp w W4 (Mine hb pb sv) ∧ ∀ b, (Value.slice (some ⟨g2, 0, none⟩) (L.length + 1) cap2).ownBlock = some b → sv.ownBlock = some b ∨ w.heap.size ≤ b := by
  obtain ⟨m1, m2, m3, m4⟩ := HM
  obtain ⟨cur, hg2, _⟩ := own_blk? hown
  have hne : g2 ≠ hb := blk_ne hg2 HH (by decide)
  have kA : Kp W2 ((W2.alloc o).drew) (fun _ => False) := ((Kp.refl W2 _).alloc o).drew
  have kB : Kp ((W2.alloc o).drew) w3 (fun k => sv.ownBlock = some k) := ⟨hgrow.size, fun k hk hn => hgrow.block k hk (fun e => hn e.symm), hgrow.os, hgrow.tape, hgrow.output⟩
  have kC : Kp w3 W4 (fun k => k = hb) := by
    rw [← hW]
    refine Kp.setCell ?_ (by left; rfl) _
    exact Kp.refl _ _
  have hsz : w.heap.size ≤ ((W2.alloc o).drew).heap.size := Nat.le_trans m4.1 kA.1
  have hpo : ¬ sv.ownBlock = some pb := by
    intro h
    rcases m2.2 with ⟨hv, _⟩ | ⟨g, cap, cur, hv, _, hg, _⟩
    · rw [hv] at h; cases h
    · rw [hv] at h
      simp [Value.ownBlock] at h
      subst h
      exact m3.ne_cells hg rfl
  have hph : pb ≠ hb := m3.ne_cells m1
  refine ⟨⟨?_, ?_, ((m3.kept kA (fun h => h)).kept kB hpo).kept kC hph, ?_, R.hbase, R.pbase⟩, ?_, ?_⟩
  · rw [← hW]; exact blk_put HH 1 _ rfl
  · rw [List.length_append, flat_app]
    have h := hown.kept_ kC hne
    have e : flat F L ++ F.f x = flat F L ++ flat F [x] := by rw [flat_cons, flat_nil, List.append_nil]
    exact own_app h e
  · rw [keys_app, List.nodup_append]
    exact ⟨R.nodup, by simp, fun a ha b hb => by simp only [List.mem_singleton] at hb; subst hb; intro e; subst e; exact hx ha⟩
  · refine Kp.then_ (Kp.then_ (Kp.then_ m4 kA (fun _ h => h.elim)) kB (fun k hk => .inl (.inr (.inr hk)))) kC (fun k hk => .inl (.inl hk))
  · intro b hb
    rcases hloc with h | h
    · left; rw [← h]; exact hb
    · right; rw [h] at hb; cases hb; exact hsz
theorem info_it : (Try.prog.info? 86).map (fun i => (i.zero, i.size, i.bytes)) = some (some (.agg #[.int .i64 0, .int .i64 0, .int .i64 0]), 3, 24) := by kernel_rfl
end Go.Proofs.Ytiocnkoogachkaa.Hii
namespace Go.Proofs.Ytiocnkoogachkaa.Hii
open Go.RowKit Go.Proofs.YtiocnkoogachkaaW.PrintWords Go.Proofs.Ytiocnkoogachkaa.Mp Go.Proofs.Ytiocnkoogachkaa.Hp
set_option linter.unusedVariables false
set_option linter.unusedSimpArgs false
set_option maxHeartbeats 2000000 in
set_option maxRecDepth 100000 in
theorem push_calls {A : Int → Int → Bool → Prop} {I : World → Prop} {S : Nat → Prop} {base : Nat} {lv : Value} (L : LessOk Try.prog (Value.int .i64) A lv I S base)
    (hb pb : Nat) (sv : Value) (L0 : List (It Int Int)) (c : Int) (w : World) (k : Int) (p : Int) (hn : L0.length < 1048576) (h0 : 0 ≤ c) (h1 : c < 4611686018427387904) (hk : k ∉ keys L0) (R : Rep F w base hb pb lv sv L0 c) (hI : I w) :
    Calls Try.prog 31 #[.pointer (some ⟨hb, 0, none⟩), .int .i64 k, .int .i64 p] w fun e w' => e = .returned (.bool true) ∧ ∃ sv' L1, UpR A (L0 ++ [⟨k, p, c + 1⟩]) L0.length L1 ∧ Rep F w' base hb pb lv sv' L1 (c + 1) ∧ L1.Perm (L0 ++ [⟨k, p, c + 1⟩]) ∧ I w' ∧ Kp w w' (fun k => Mine hb pb sv k ∨ S k) ∧ (∀ b, sv'.ownBlock = some b → sv.ownBlock = some b ∨ w.heap.size ≤ b) := by
  have hlook : (Instr.lookup 81 (.map (some pb)) (.int .i64 k) true).run Try.prog w = .ok (.tuple #[.int .i64 0, .bool false]) w := by
    have h := R.map.look F.KV Try.underlying81 Try.underlying3 (z := .int .i64 0) (by kernel_rfl) k
    rw [(place_none k).2 hk] at h
    exact h
  obtain ⟨W2, hupd, HM⟩ := push_mid (x := ⟨k, p, c + 1⟩) R hk (c + 1)
  simp only at hupd
  have c1 : w.cell? ⟨hb, 1, none⟩ = some sv := (blk_cell R.head 1).trans rfl
  have c2 : w.cell? ⟨hb, 2, none⟩ = some (.map (some pb)) := (blk_cell R.head 2).trans rfl
  have c3 : w.cell? ⟨hb, 3, none⟩ = some (.int .i64 c) := (blk_cell R.head 3).trans rfl
  have f3 : w.frozen? ⟨hb, 3, none⟩ = false := blk_frozen R.head 3
  obtain ⟨a, cap, hsv⟩ : ∃ a cap, sv = .slice a L0.length cap := by
    rcases R.own.2 with ⟨hv, h⟩ | ⟨g, cap, _, h, _⟩
    · exact ⟨none, 0, by rw [hv, h]⟩
    · exact ⟨_, _, h⟩
  have d1 : W2.cell? ⟨hb, 1, none⟩ = some sv := (blk_cell HM.out.1 1).trans rfl
  have d3 : W2.cell? ⟨hb, 3, none⟩ = some (.int .i64 (c + 1)) := (blk_cell HM.out.1 3).trans rfl
  have e1 : ∀ v, (w.setCell ⟨hb, 3, none⟩ v).cell? ⟨hb, 1, none⟩ = some sv := fun v => by rw [World.cell?_setCell_other _ _ _ _ (by simp)]; exact c1
  have e2 : ∀ v, (w.setCell ⟨hb, 3, none⟩ v).cell? ⟨hb, 2, none⟩ = some (.map (some pb)) := fun v => by rw [World.cell?_setCell_other _ _ _ _ (by simp)]; exact c2
  obtain ⟨i0, hi, hz0, hz1, hz2⟩ := info_parts info_it
  subst hsv
  have HR := Aside0.mk R
  have HI := Aside0.mk hI
  have HL := Aside0.mk L
  have HK := Aside0.mk hk
  have hbw : base ≤ W2.heap.size := Nat.le_trans R.size HM.out.2.2.2.1
  have HZ := Aside0.mk hi
  have HZ0 := Aside0.mk hz0
  have HZ1 := Aside0.mk hz1
  have HZ2 := Aside0.mk hz2
  have HNB : Aside0 (some hb ≠ (Value.slice a L0.length cap).ownBlock) := ⟨by
    intro h
    rcases R.own.2 with ⟨hv, _⟩ | ⟨g, cap, cur, hv, hbg, hg, _⟩
    · rw [hv] at h; cases h
    · rw [hv] at h
      simp [Value.ownBlock] at h
      subst h
      exact blk_ne hg R.head (by decide) rfl⟩
  generalize hN : L0.length = n at *
  have HN := Aside0.mk hN
  clear R hI L hk hN hi hz0 hz1 hz2
  go_enter Try.func31, Try.ntmps31
  go_wp2
  go_region
  go_wp2
  clear c1 c2 c3 e1 e2 f3 hupd hlook
  have d1a := fun o => cell_alloc (o := o) d1
  go_region_law (refine step_append_at rfl (.tmp 40) (.tmp 48) 82 rfl base 86 i0 _ 3 24 Try.underlying82 HZ.out HZ0.out HZ1.out HZ2.out rfl (by decide) (.slice a n cap) n (flat F L0) rfl (by first | exact own_alloc HM.out.2.1 _ | exact Hp.own_drew (own_alloc HM.out.2.1 _)) ⟨W2.heap.size, 0, none⟩ 1 1 [.int .i64 k, .int .i64 p, .int .i64 (c + 1)] rfl rfl (fun j u h => newrow W2 86 _ j u h) (by intro u hu; simp only [List.mem_cons, List.not_mem_nil, or_false] at hu; rcases hu with rfl | rfl | rfl <;> rfl) (by unfold maxLen; omega) (by omega) (by simp; omega) ?_; intro v' w' hown hgrow hloc; obtain ⟨g2, cap2, rfl⟩ := own_sl_ hown; have HH := Aside0.mk (blk_grown (blk_al HM.out.1) hgrow HNB.out); have q1 : w'.cell? ⟨hb, 1, none⟩ = some (.slice a n cap) := (blk_cell HH.out 1).trans rfl; have q2 : w'.frozen? ⟨hb, 1, none⟩ = false := blk_frozen HH.out 1; have HO := Aside0.mk hown; have HG := Aside0.mk hgrow; have HC := Aside0.mk hloc; clear hown hgrow hloc)
  all_goals
    generalize hW : (World.setCell w' _ _) = W4
    have hn' := HN.out
    subst hn'
    obtain ⟨RR, KK, FR⟩ := push_end HR.out HK.out HM.out HH.out HO.out HG.out HC.out hW
    have HRR := Aside0.mk RR
    have HKK := Aside0.mk KK
    have HFR := Aside0.mk FR
    have HI4 : Aside0 (I W4) := ⟨HL.out.stable _ _ HI.out (fun k hk => kept_low HR.out KK hk)⟩
    have q3 : W4.cell? ⟨hb, 1, none⟩ = some (.slice (some ⟨g2, 0, none⟩) (L0.length + 1) cap2) := (blk_cell RR.head 1).trans rfl
    clear RR KK FR hW HH HO HG HC HM d1 d1a d3 q1 q2
    go_wp2_with fail
    refine (up_calls HL.out hb pb _ (L0 ++ [⟨k, p, c + 1⟩]) (c + 1) W4 L0.length (by simp) (by simp; omega) HRR.out HI4.out).mono ?_
    rintro e w5 ⟨rfl, L1, u1, u2, u3, u4, u5⟩
    have FIN : Aside0 (∃ sv' L1, UpR A (L0 ++ [⟨k, p, c + 1⟩]) L0.length L1 ∧ Rep F w5 base hb pb lv sv' L1 (c + 1) ∧ L1.Perm (L0 ++ [⟨k, p, c + 1⟩]) ∧ I w5 ∧ Kp w w5 (fun k => Mine hb pb (.slice a L0.length cap) k ∨ S k) ∧ (∀ b, sv'.ownBlock = some b → (Value.slice a L0.length cap).ownBlock = some b ∨ w.heap.size ≤ b)) :=
      ⟨_, L1, u1, u2, u3, u4, Kp.then_ (HKK.out.mono (fun k hk => .inl hk)) u5 (fun k hk => by
        rcases hk with (rfl | rfl | hk) | hk
        · exact .inl (.inl (.inl rfl))
        · exact .inl (.inl (.inr (.inl rfl)))
        · rcases HFR.out k hk with h | h
          · exact .inl (.inl (.inr (.inr h)))
          · exact .inr h
        · exact .inl (.inr hk)), HFR.out⟩
    clear u1 u2 u3 u4 u5 HRR HKK HFR HI4
    go_wp2
    go_ret
    exact ⟨rfl, FIN.out⟩
end Go.Proofs.Ytiocnkoogachkaa.Hii
namespace Go.Proofs.Ytiocnkoogachkaa.Hii
open Go.RowKit Go.Proofs.YtiocnkoogachkaaW.PrintWords Go.Proofs.Ytiocnkoogachkaa.Mp Go.Proofs.Ytiocnkoogachkaa.Hp
set_option linter.unusedVariables false
set_option linter.unusedSimpArgs false
theorem push_in {base hb pb : Nat} {lv sv : Value} {L0 : List (It Int Int)} {c : Int} {w : World} (R : Rep F w base hb pb lv sv L0 c) {i : Nat} {x : It Int Int} (hx : L0[i]? = some x) (p : Int) :
    Calls Try.prog 31 #[.pointer (some ⟨hb, 0, none⟩), .int .i64 x.key, .int .i64 p] w fun e w' => e = .returned (.bool false) ∧ w = w' := by
  have hlook : (Instr.lookup 81 (.map (some pb)) (.int .i64 x.key) true).run Try.prog w = .ok (.tuple #[.int .i64 (i : Int), .bool true]) w := by
    have h := R.map.look F.KV Try.underlying81 Try.underlying3 (z := .int .i64 0) (by kernel_rfl) x.key
    rw [(place_iff R.nodup x.key i).2 ⟨x, hx, rfl⟩] at h
    exact h
  have c2 : w.cell? ⟨hb, 2, none⟩ = some (.map (some pb)) := (blk_cell R.head 2).trans rfl
  clear R hx
  go_enter Try.func31, Try.ntmps31
  go_wp2
  go_ret
  exact ⟨rfl, rfl⟩
theorem peek_nil {base hb pb : Nat} {lv sv : Value} {L0 : List (It Int Int)} {c : Int} {w : World} (R : Rep F w base hb pb lv sv L0 c) (hn : L0 = []) :
    Calls Try.prog 33 #[.pointer (some ⟨hb, 0, none⟩)] w fun e w' => e = .returned (.tuple #[.int .i64 (0 : Int), .int .i64 0, .bool false]) ∧ w = w' := by
  obtain ⟨a, cap, hsv⟩ : ∃ a cap, sv = .slice a L0.length cap := by
    rcases R.own.2 with ⟨hv, h⟩ | ⟨g, cap, _, h, _⟩
    · exact ⟨none, 0, by rw [hv, h]⟩
    · exact ⟨_, _, h⟩
  have c1 : w.cell? ⟨hb, 1, none⟩ = some (.slice a L0.length cap) := (blk_cell R.head 1).trans (by rw [hsv]; rfl)
  clear R hsv
  subst hn
  simp only [List.length_nil] at c1
  go_enter Try.func33, Try.ntmps33
  go_wp2
  go_ret3
  exact ⟨rfl, rfl⟩
set_option maxRecDepth 100000 in
theorem peek_cons {base hb pb : Nat} {lv sv : Value} {L0 : List (It Int Int)} {c : Int} {w : World} (R : Rep F w base hb pb lv sv L0 c) {x : It Int Int} (hx : L0[0]? = some x) :
    Calls Try.prog 33 #[.pointer (some ⟨hb, 0, none⟩)] w fun e w' => e = .returned (.tuple #[.int .i64 x.key, .int .i64 x.rank, .bool true]) ∧ Kp w w' (fun _ => False) := by
  have hi := (List.getElem?_eq_some_iff.1 hx).1
  obtain ⟨g, cap, rfl⟩ := R.slice (by omega)
  have c1 : w.cell? ⟨hb, 1, none⟩ = some (.slice (some ⟨g, 0, none⟩) L0.length cap) := (blk_cell R.head 1).trans rfl
  have i0 : w.cell? ⟨g, 0, none⟩ = some (.int .i64 x.key) := own_cell R.own _ _ (by have := flat_get F L0 0 0 x hx (by decide); rw [Nat.zero_mul, Nat.zero_add] at this; exact this.trans rfl)
  have i1 : w.cell? ⟨g, 1, none⟩ = some (.int .i64 x.rank) := own_cell R.own _ _ (by have := flat_get F L0 0 1 x hx (by decide); rw [Nat.zero_mul, Nat.zero_add] at this; exact this.trans rfl)
  have hne : ((L0.length : Int) == 0) = false := beq_eq_false_iff_ne.2 (by omega)
  clear R hx
  go_enter Try.func33, Try.ntmps33
  go_wp2
  go_region
  go_wp2
  go_ret3
  exact ⟨rfl, (Kp.refl w _).drew⟩
theorem drop_absent {base hb pb : Nat} {lv sv : Value} {L0 : List (It Int Int)} {c : Int} {w : World} (R : Rep F w base hb pb lv sv L0 c) {k : Int} (hk : k ∉ keys L0) :
    Calls Try.prog 34 #[.pointer (some ⟨hb, 0, none⟩), .int .i64 k] w fun e w' => e = .returned (.bool false) ∧ w = w' := by
  have hlook : (Instr.lookup 81 (.map (some pb)) (.int .i64 k) true).run Try.prog w = .ok (.tuple #[.int .i64 0, .bool false]) w := by
    have h := R.map.look F.KV Try.underlying81 Try.underlying3 (z := .int .i64 0) (by kernel_rfl) k
    rw [(place_none k).2 hk] at h
    exact h
  have c2 : w.cell? ⟨hb, 2, none⟩ = some (.map (some pb)) := (blk_cell R.head 2).trans rfl
  clear R hk
  go_enter Try.func34, Try.ntmps34
  go_wp2
  go_ret
  exact ⟨rfl, rfl⟩
end Go.Proofs.Ytiocnkoogachkaa.Hii
namespace Go.Proofs.Ytiocnkoogachkaa.Hii
open Go.RowKit Go.Proofs.YtiocnkoogachkaaW.PrintWords Go.Proofs.Ytiocnkoogachkaa.Mp Go.Proofs.Ytiocnkoogachkaa.Hp
set_option linter.unusedVariables false
set_option linter.unusedSimpArgs false
theorem drop_mid {W1 : World} {base hb pb : Nat} {lv sv : Value} {L : List (It Int Int)} {c : Int} {x : It Int Int} {m : Nat} (R : Rep F W1 base hb pb lv sv L c) (hm : L.length = m + 1) (hx : L[m]? = some x) :
    ∃ W2, (∀ ty, (Builtin.delete_ #[81, 3] ty #[.map (some pb), .int .i64 x.key]).run Try.prog W1 = .ok (.tuple #[]) W2) ∧
      Aside0 (W2.heap[hb]? = some (.cells #[lv, sv, .map (some pb), .int .i64 c] 84 (0, 0)) ∧ W2.ownsRow base 86 3 sv L.length (flat F L) ∧ MapAt W2 pb F.d F.kv (fun k => (place L.dropLast k).map (fun (i : Nat) => Value.int .i64 (i : Int))) ∧ Kp W1 W2 (fun k => k = pb)) := by
  obtain ⟨o, hrun, mp⟩ := R.map.drop F.KV Try.underlying81 Try.underlying3 x.key
  have kp : Kp W1 (setB W1 pb o) (fun k => k = pb) := setB_kept rfl
  refine ⟨_, hrun, ⟨blk_kp R.head kp (R.map.ne_cells R.head).symm, ?_, mp.congr (place_dropLast R.nodup (by rw [hm, Nat.add_sub_cancel]; exact hx)), kp⟩⟩
  obtain ⟨g, cap, rfl⟩ := R.slice (by omega)
  obtain ⟨cur, hg, _⟩ := own_blk? R.own
  exact R.own.kept_ kp (fun h => R.map.ne_cells hg h.symm)
theorem drop_clear (W : World) (g m cap : Nat) (ty : TypeId) {v0 : Value} (h0 : W.cell? ⟨g, m * 3, none⟩ = some v0) {v1 : Value} (h1 : W.cell? ⟨g, m * 3 + 1, none⟩ = some v1) {v2 : Value} (h2 : W.cell? ⟨g, m * 3 + 2, none⟩ = some v2) (f0 : W.frozen? ⟨g, m * 3, none⟩ = false) (f1 : W.frozen? ⟨g, m * 3 + 1, none⟩ = false) (f2 : W.frozen? ⟨g, m * 3 + 2, none⟩ = false) :
    (Builtin.clear_ #[82] ty #[.slice (some ⟨g, m * 3, none⟩) 1 cap]).run Try.prog W = .ok (.tuple #[]) ((((W.setCell ⟨g, m * 3, none⟩ (.int .i64 0)).setCell ⟨g, m * 3 + 1, none⟩ (.int .i64 0)).setCell ⟨g, m * 3 + 2, none⟩ (.int .i64 0))) := by
  have hz : ∀ w, (zeroValue 86).run Try.prog w = .ok (.agg #[.int .i64 0, .int .i64 0, .int .i64 0]) w := fun w => by kernel_rfl
  have hu := Try.underlying82
  have hzc : (Builtin.zeroCells #[.int .i64 0, .int .i64 0, .int .i64 0] 1).toList = [.int .i64 0, .int .i64 0, .int .i64 0] := by first | (simp [Builtin.zeroCells]; done) | kernel_rfl
  unfold Builtin.clear_
  go_simp
theorem drop_end {W1 W2 W4 : World} {base hb pb g cap : Nat} {lv : Value} {L : List (It Int Int)} {c : Int} {m : Nat} (R : Rep F W1 base hb pb lv (.slice (some ⟨g, 0, none⟩) (m + 1) cap) L c) (hm : L.length = m + 1)
    (HM : W2.heap[hb]? = some (.cells #[lv, (.slice (some ⟨g, 0, none⟩) (m + 1) cap), .map (some pb), .int .i64 c] 84 (0, 0)) ∧ W2.ownsRow base 86 3 (.slice (some ⟨g, 0, none⟩) (m + 1) cap) L.length (flat F L) ∧ MapAt W2 pb F.d F.kv (fun k => (place L.dropLast k).map (fun (i : Nat) => Value.int .i64 (i : Int))) ∧ Kp W1 W2 (fun k => k = pb))
    (hW : ((((W2.setCell ⟨g, m * 3, none⟩ (.int .i64 0)).setCell ⟨g, m * 3 + 1, none⟩ (.int .i64 0)).setCell ⟨g, m * 3 + 2, none⟩ (.int .i64 0))).setCell ⟨hb, 1, none⟩ (.slice (some ⟨g, 0, none⟩) m cap) = W4) :
    Rep F W4 base hb pb lv (.slice (some ⟨g, 0, none⟩) m cap) L.dropLast c ∧ Kp W1 W4 (Mine hb pb (.slice (some ⟨g, 0, none⟩) (m + 1) cap)) := by
  obtain ⟨m1, m2, m3, m4⟩ := HM
  rw [hm] at m2
  obtain ⟨cur0, hg0, _⟩ := own_blk? m2
  have hgh : g ≠ hb := blk_ne hg0 m1 (by decide)
  have hpg : pb ≠ g := m3.ne_cells hg0
  have hph : pb ≠ hb := m3.ne_cells m1
  have kA : Kp W2 ((((W2.setCell ⟨g, m * 3, none⟩ (.int .i64 0)).setCell ⟨g, m * 3 + 1, none⟩ (.int .i64 0)).setCell ⟨g, m * 3 + 2, none⟩ (.int .i64 0))) (fun k => k = g) := by
    refine Kp.setCell ?_ (by left; rfl) _
    refine Kp.setCell ?_ (by left; rfl) _
    refine Kp.setCell ?_ (by left; rfl) _
    exact Kp.refl _ _
  have h0 := own_set m2 (m * 3) (.int .i64 0)
  have h1 := own_set h0 (m * 3 + 1) (.int .i64 0)
  have h2 := own_set h1 (m * 3 + 2) (.int .i64 0)
  have hd := blk_kp m1 kA (fun e => hgh e.symm)
  have kB : Kp ((((W2.setCell ⟨g, m * 3, none⟩ (.int .i64 0)).setCell ⟨g, m * 3 + 1, none⟩ (.int .i64 0)).setCell ⟨g, m * 3 + 2, none⟩ (.int .i64 0))) W4 (fun k => k = hb) := by
    rw [← hW]
    refine Kp.setCell ?_ (by left; rfl) _
    exact Kp.refl _ _
  have h9 := h2.kept_ kB hgh
  obtain ⟨cur, hg, hb0, hc1, hc2, hc3, hc4⟩ := own_blk? h9
  refine ⟨⟨?_, ⟨?_, .inr ⟨g, cap, cur, ?_, hb0, hg, by rw [List.length_dropLast]; omega, hc2, hc3, ?_⟩⟩, (m3.kept kA hpg).kept kB hph, ?_, R.hbase, R.pbase⟩, ?_⟩
  · rw [← hW]; exact blk_put hd 1 _ rfl
  · rw [flat_len]
  · rw [List.length_dropLast, hm, Nat.add_sub_cancel]
  · rw [flat_dropLast, List.length_dropLast]
    show cur.toList.take ((L.length - 1) * 3) = (flat F L).take ((L.length - 1) * 3)
    have e1 : ((m + 1) * 3) = m * 3 + 3 := by rw [Nat.add_mul, Nat.one_mul]
    have e2 : (L.length - 1) * 3 = m * 3 := by rw [hm]; rfl
    rw [e2]
    have e3 : cur.toList.take (m * 3) = (cur.toList.take ((m + 1) * 3)).take (m * 3) := by rw [List.take_take, Nat.min_eq_left (by omega)]
    rw [e3, hc4, List.take_set_of_le (by omega), List.take_set_of_le (by omega), List.take_set_of_le (by omega)]
  · rw [keys_dropLast]; exact R.nodup.sublist (List.dropLast_sublist _)
  · exact Kp.then_ (Kp.then_ (m4.mono (fun k hk => .inr (.inl hk))) kA (fun k hk => .inl (.inr (.inr (by rw [hk]; rfl))))) kB (fun k hk => .inl (.inl hk))
end Go.Proofs.Ytiocnkoogachkaa.Hii
namespace Go.Proofs.Ytiocnkoogachkaa.Hii
open Go.RowKit Go.Proofs.YtiocnkoogachkaaW.PrintWords Go.Proofs.Ytiocnkoogachkaa.Mp Go.Proofs.Ytiocnkoogachkaa.Hp
set_option linter.unusedVariables false
set_option linter.unusedSimpArgs false
set_option maxHeartbeats 3000000 in
set_option maxRecDepth 100000 in
theorem drop_in {A : Int → Int → Bool → Prop} {I : World → Prop} {S : Nat → Prop} {base : Nat} {lv : Value} (L : LessOk Try.prog (Value.int .i64) A lv I S base) {hb pb : Nat} {sv : Value} {L0 : List (It Int Int)} {c : Int} {w : World} (R : Rep F w base hb pb lv sv L0 c) (hI : I w) {i : Nat} {x : It Int Int} (hx : L0[i]? = some x) (hn : L0.length ≤ 1048576) :
    Calls Try.prog 34 #[.pointer (some ⟨hb, 0, none⟩), .int .i64 x.key] w fun e w' => e = .returned (.bool true) ∧ ∃ sv' L1, DropR A L0 i L1 ∧ Rep F w' base hb pb lv sv' L1 c ∧ I w' ∧ Kp w w' (fun k => Mine hb pb sv k ∨ S k) ∧ sv'.ownBlock = sv.ownBlock := by
  have hi := (List.getElem?_eq_some_iff.1 hx).1
  obtain ⟨g, cap, rfl⟩ := R.slice (by omega)
  obtain ⟨m, hm⟩ : ∃ m, L0.length = m + 1 := ⟨L0.length - 1, by omega⟩
  have hlook : (Instr.lookup 81 (.map (some pb)) (.int .i64 x.key) true).run Try.prog w = .ok (.tuple #[.int .i64 (i : Int), .bool true]) w := by
    have h := R.map.look F.KV Try.underlying81 Try.underlying3 (z := .int .i64 0) (by kernel_rfl) x.key
    rw [(place_iff R.nodup x.key i).2 ⟨x, hx, rfl⟩] at h
    exact h
  have c1 : w.cell? ⟨hb, 1, none⟩ = some (.slice (some ⟨g, 0, none⟩) (m + 1) cap) := (blk_cell R.head 1).trans (by rw [hm]; rfl)
  have c2 : w.cell? ⟨hb, 2, none⟩ = some (.map (some pb)) := (blk_cell R.head 2).trans rfl
  obtain ⟨y, hy⟩ : ∃ y, L0[m]? = some y := ⟨_, List.getElem?_eq_getElem (by omega)⟩
  have hgx : (swp L0 i m)[m]? = some x := by rw [swp_get hx hy, if_pos rfl]
  have hcap : m + 1 ≤ cap ∧ cap ≤ maxLen := by
    obtain ⟨cur, _, _, h1, h2, _⟩ := own_blk? R.own
    exact ⟨by omega, h2⟩
  have hcm : cap ≤ 9223372036854775807 := by have := hcap.2; unfold maxLen at this; omega
  have hc1 := hcap.1
  have hmn : m < 1048576 := by omega
  have him : i ≤ m := by omega
  clear hcap
  have HX := Aside0.mk hx
  have HY := Aside0.mk hy
  have HG := Aside0.mk hgx
  have HR := Aside0.mk R
  have HI := Aside0.mk hI
  have HL := Aside0.mk L
  have HM := Aside0.mk hm
  have HN := Aside0.mk hn
  clear R hI L hx hy hgx hm hn hi
  go_enter Try.func34, Try.ntmps34
  go_wp2_with fail
  clear hlook c1 c2
  refine (swap_calls base hb pb lv _ L0 c w i m (by have := HM.out; omega) (by have := HM.out; omega) HR.out).mono ?_
  rintro e w1 ⟨rfl, hR1, hK1⟩
  have hlen : (swp L0 i m).length = m + 1 := by rw [swp_len]; exact HM.out
  obtain ⟨W2, hdel, HD⟩ := drop_mid hR1 hlen HG.out
  have HR1 := Aside0.mk hR1
  have HK1 := Aside0.mk hK1
  have HE := Aside0.mk hlen
  have e1 : w1.cell? ⟨hb, 2, none⟩ = some (.map (some pb)) := (blk_cell hR1.head 2).trans rfl
  have d1 : W2.cell? ⟨hb, 1, none⟩ = some (.slice (some ⟨g, 0, none⟩) (m + 1) cap) := (blk_cell HD.out.1 1).trans (by rw [HM.out]; rfl)
  have d2 : W2.frozen? ⟨hb, 1, none⟩ = false := blk_frozen HD.out.1 1
  have hO : W2.ownsRow base F.it F.sz (.slice (some ⟨g, 0, none⟩) (m + 1) cap) (m + 1) (flat F (swp L0 i m)) := by
    have h := HD.out.2.1
    rw [hlen, HM.out] at h
    exact h
  have hgh : g ≠ hb := by
    obtain ⟨cur, hg, _⟩ := own_blk? hO
    exact blk_ne hg HD.out.1 (by decide)
  have z0 : W2.cell? ⟨g, m * 3, none⟩ = some (.int .i64 x.key) := own_cell hO _ _ ((flat_get F _ m 0 x HG.out (by decide)).trans rfl)
  have z1 : W2.cell? ⟨g, m * 3 + 1, none⟩ = some (.int .i64 x.rank) := own_cell hO _ _ ((flat_get F _ m 1 x HG.out (by decide)).trans rfl)
  have z2 : W2.cell? ⟨g, m * 3 + 2, none⟩ = some (.int .i64 x.came) := own_cell hO _ _ ((flat_get F _ m 2 x HG.out (by decide)).trans rfl)
  have hclr := fun ty => drop_clear W2 g m (cap - m) ty z0 z1 z2 (own_frozen hO _) (own_frozen hO _) (own_frozen hO _)
  have d1' : ((((W2.setCell ⟨g, m * 3, none⟩ (.int .i64 0)).setCell ⟨g, m * 3 + 1, none⟩ (.int .i64 0)).setCell ⟨g, m * 3 + 2, none⟩ (.int .i64 0))).cell? ⟨hb, 1, none⟩ = some (.slice (some ⟨g, 0, none⟩) (m + 1) cap) := by
    rw [World.cell?_setCell_other _ _ _ _ (by intro e; simp only [Addr.mk.injEq] at e; exact hgh e.1), World.cell?_setCell_other _ _ _ _ (by intro e; simp only [Addr.mk.injEq] at e; exact hgh e.1), World.cell?_setCell_other _ _ _ _ (by intro e; simp only [Addr.mk.injEq] at e; exact hgh e.1)]
    exact d1
  clear hR1 hK1 hlen hO z0 z1 z2
  have END : Aside0 (∀ W4, ((((W2.setCell ⟨g, m * 3, none⟩ (.int .i64 0)).setCell ⟨g, m * 3 + 1, none⟩ (.int .i64 0)).setCell ⟨g, m * 3 + 2, none⟩ (.int .i64 0))).setCell ⟨hb, 1, none⟩ (.slice (some ⟨g, 0, none⟩) m cap) = W4 → Rep F W4 base hb pb lv (.slice (some ⟨g, 0, none⟩) m cap) (swp L0 i (L0.length - 1)).dropLast c ∧ Kp w W4 (Mine hb pb (.slice (some ⟨g, 0, none⟩) L0.length cap))) := ⟨fun W4 hW => by
    have R1 := HR1.out
    have D := HD.out
    rw [HM.out] at R1 D
    have h := drop_end R1 HE.out D hW
    rw [HM.out, Nat.add_sub_cancel]
    exact ⟨h.1, Kp.then_ (HK1.out.mono (fun k hk => .inr (by rw [HM.out] at hk; exact hk))) h.2 (fun k hk => .inl hk)⟩⟩
  by_cases hlt : i < m
  · have t1 : decide ((i : Int) < (m : Int)) = true := by simp; omega
    go_wp2_with fail
    generalize hW : (World.setCell _ _ (Value.slice _ m cap)) = W4
    have hE := END.out W4 hW
    have HRR := Aside0.mk hE.1
    have HKK := Aside0.mk hE.2
    have HI4 : Aside0 (I W4) := ⟨HL.out.stable _ _ HI.out (fun k hk => kept_low HR.out hE.2 hk)⟩
    clear hW hE END hclr hdel d1 d1' d2 e1
    refine (up_calls HL.out hb pb _ _ c W4 i (by rw [List.length_dropLast, swp_len, HM.out]; omega) (by rw [List.length_dropLast, swp_len, HM.out]; omega) HRR.out HI4.out).mono ?_
    rintro e w5 ⟨rfl, L3, u1, u2, u3, u4, u5⟩
    have U1 := Aside0.mk u1
    have U2 := Aside0.mk u2
    have U4 := Aside0.mk u4
    have U5 := Aside0.mk u5
    have hl3 : L3.length = m := by rw [u3.length_eq, List.length_dropLast, swp_len, HM.out]; rfl
    clear u1 u2 u3 u4 u5
    have HL3 := Aside0.mk hl3
    clear hl3
    go_wp2_with fail
    refine (down_calls HL.out hb pb _ L3 c w5 i (by have := HL3.out; omega) (by have := HL3.out; omega) U2.out U4.out).mono ?_
    rintro e w6 ⟨rfl, L4, v1, v2, v3, v4, v5⟩
    have FIN : Aside0 (∃ sv' L1, DropR A L0 i L1 ∧ Rep F w6 base hb pb lv sv' L1 c ∧ I w6 ∧ Kp w w6 (fun k => Mine hb pb (.slice (some ⟨g, 0, none⟩) L0.length cap) k ∨ S k) ∧ sv'.ownBlock = (Value.slice (some ⟨g, 0, none⟩) L0.length cap).ownBlock) :=
      ⟨_, L4, .inl ⟨by have := HM.out; omega, L3, U1.out, v1⟩, v2, v4, Kp.then_ (Kp.then_ (HKK.out.mono (fun k hk => .inl hk)) U5.out (fun k hk => .inl hk)) v5 (fun k hk => .inl hk), rfl⟩
    clear v1 v2 v3 v4 v5 U1 U2 U4 U5 HRR HKK HI4
    go_wp2
    go_ret
    exact ⟨rfl, FIN.out⟩
  · have t1 : decide ((i : Int) < (m : Int)) = false := by simp; omega
    have hie : i = m := by omega
    have HIE := Aside0.mk hie
    clear hie him
    go_wp2
    go_ret
    refine ⟨rfl, ?_⟩
    generalize hW : (World.setCell _ _ (Value.slice _ m cap)) = W4
    have hE := END.out W4 hW
    have HI4 : Aside0 (I W4) := ⟨HL.out.stable _ _ HI.out (fun k hk => kept_low HR.out hE.2 hk)⟩
    exact ⟨_, _, .inr ⟨by have := HM.out; have := HIE.out; omega, rfl⟩, hE.1, HI4.out, hE.2.mono (fun k hk => .inl hk), rfl⟩
end Go.Proofs.Ytiocnkoogachkaa.Hii
namespace Go.Proofs.Ytiocnkoogachkaa.Hii
open Go.RowKit Go.Proofs.YtiocnkoogachkaaW.PrintWords Go.Proofs.Ytiocnkoogachkaa.Mp Go.Proofs.Ytiocnkoogachkaa.Hp
set_option linter.unusedVariables false
set_option linter.unusedSimpArgs false
theorem rep_new (w : World) (lv : Value) (W : World) (h : W = ((w.alloc (.map #[] 0)).alloc (.cells #[lv, .slice none 0 0, .map (some w.heap.size), .int .i64 0] 84))) :
    Rep F W w.heap.size (w.heap.size + 1) w.heap.size lv (.slice none 0 0) [] 0 ∧ Kp w W (fun _ => False) := by
  subst h
  have k1 : Kp (w.alloc (.map #[] 0)) ((w.alloc (.map #[] 0)).alloc (.cells #[lv, .slice none 0 0, .map (some w.heap.size), .int .i64 0] 84)) (fun _ => False) := (Kp.refl _ _).alloc _
  refine ⟨⟨?_, ⟨rfl, .inl ⟨rfl, rfl⟩⟩, ?_, List.nodup_nil, by omega, by omega⟩, ((Kp.refl w _).alloc _).alloc _⟩
  · have h := (MapKept.heap_alloc (w.alloc (.map #[] 0)) (.cells #[lv, .slice none 0 0, .map (some w.heap.size), .int .i64 0] 84)).1
    rw [show (w.alloc (.map #[] 0)).heap.size = w.heap.size + 1 from by show (w.heap.push _).size = _; simp] at h
    exact h
  · exact ((MapAt.made (d := F.d) (kv := F.kv) w).kept k1 (fun h => h)).congr (fun k => rfl)
theorem new_calls (F0 : Nat) (cp : Array Value) (w : World) : Calls Try.prog 25 #[.func (.func F0) #[] cp] w fun e w' => e = .returned (.pointer (some ⟨w.heap.size + 1, 0, none⟩)) ∧ Rep F w' w.heap.size (w.heap.size + 1) w.heap.size (.func (.func F0) #[] cp) (.slice none 0 0) [] 0 ∧ Kp w w' (fun _ => False) := by
  have hmm := @run_makeMap Try.prog
  have hq : (binOp BinOp.eql 30 (Value.func (Fn.func F0) #[] cp) Value.nilFunc).run Try.prog w = .ok (.bool false) w := by kernel_rfl
  go_enter Try.func25, Try.ntmps25
  go_wp2
  go_ret
  exact ⟨rfl, rep_new w _ _ rfl⟩
end Go.Proofs.Ytiocnkoogachkaa.Hii
