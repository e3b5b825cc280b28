/- This text walks the heap's functions over keys and ranks of one kind (ii): printed by gen.py. -/
import Derived.Test.YtiocnkoogachkaaHuii
namespace Go.Proofs.Ytiocnkoogachkaa.Hii
open Go.RowKit Go.Proofs.YtiocnkoogachkaaW.PrintWords Go.Proofs.Ytiocnkoogachkaa.Mp Go.Proofs.Ytiocnkoogachkaa.Hp
set_option linter.unusedVariables false
set_option linter.unusedSimpArgs false
set_option maxHeartbeats 2000000 in
set_option maxRecDepth 100000 in
theorem down_calls {A : Int → Int → Bool → Prop} {I : World → Prop} {S : Nat → Prop} {base : Nat} {lv : Value} (L : LessOk Try.prog (Value.int .i64) A lv I S base)
    (hb pb : Nat) (sv : Value) (L0 : List (It Int Int)) (c : Int) (w : World) (i : Nat) (hi : i < L0.length) (hn : L0.length ≤ 1152921504606846976) (R : Rep F w base hb pb lv sv L0 c) (hI : I w) :
    Calls Try.prog 49 #[.pointer (some ⟨hb, 0, none⟩), .int .i64 i] w fun e w' => e = .returned (.tuple #[]) ∧ ∃ L1, DownR A L0 i L1 ∧ Rep F w' base hb pb lv sv L1 c ∧ L1.Perm L0 ∧ I w' ∧ Kp w w' (fun k => Mine hb pb sv k ∨ S k) := by
  have HL := Aside0.mk L
  have HR := Aside0.mk R
  have HI := Aside0.mk hI
  have HN := Aside0.mk hn
  have Hi := Aside0.mk hi
  clear R hI L hn hi
  have hx0 : ∀ (a b : Value) (W : World), (Instr.index 89 (.agg #[a, b]) (.int .i64 0)).run Try.prog W = .ok a W := fun _ _ _ => by kernel_rfl
  have hx1 : ∀ (a b : Value) (W : World), (Instr.index 89 (.agg #[a, b]) (.int .i64 1)).run Try.prog W = .ok b W := fun _ _ _ => by kernel_rfl
  go_enter Try.func49, Try.ntmps49
  go_wp2
  go_loopw [1] (fun iv wr => ∃ (k : Nat) (L1 : List (It Int Int)), iv = .int .i64 k ∧ Aside0 (k < L1.length) ∧ Aside0 (Rep F wr base hb pb lv sv L1 c) ∧ Aside0 (L1.Perm L0) ∧ Aside0 (I wr) ∧ Aside0 (Kp w wr (fun k => Mine hb pb sv k ∨ S k)) ∧ Aside0 (∀ L2, DownR A L1 k L2 → DownR A L0 i L2)) (fun iv _ => L0.length - (intOf iv).toNat)
  case atStart => exact ⟨i, L0, rfl, Hi, HR, ⟨List.Perm.refl _⟩, HI, ⟨Kp.refl _ _⟩, ⟨fun _ h => h⟩⟩
  case round =>
    obtain ⟨k, L1, rfl, Hk, HR1, HP, HI1, HK1, HU⟩ := hrel
    clear HR HI Hi
    have hkn : k < 1152921504606846976 := by have := HP.out.length_eq; have := Hk.out; have := HN.out; omega
    go_wp2
    go_loopw [4, 15] (fun lv2 qv wq => ∃ (q m : Nat), q ≤ 2 ∧ m ≤ 2305843009213693954 ∧ lv2 = .int .i64 m ∧ qv = .int .i64 q ∧ Aside0 (m < L1.length) ∧ Aside0 (Rep F wq base hb pb lv sv L1 c) ∧ Aside0 (I wq) ∧ Aside0 (Kp w wq (fun k => Mine hb pb sv k ∨ S k)) ∧ Aside0 ((q = 0 ∧ m = k) ∨ (q = 1 ∧ Pick A L1 k (2 * k + 1) m) ∨ (q = 2 ∧ ∃ m1, Pick A L1 k (2 * k + 1) m1 ∧ Pick A L1 m1 (2 * k + 2) m))) (fun _ qv _ => 2 - (intOf qv).toNat)
    case atStart => exact ⟨0, k, by omega, by omega, rfl, rfl, Hk, HR1, HI1, HK1, ⟨.inl ⟨rfl, rfl⟩⟩⟩
    case round =>
      clear HR1 HI1 HK1
      obtain ⟨q, m, hq2, hmn, rfl, rfl, Hm, HR1, HI1, HK1, HC⟩ := hrel
      by_cases hlt : q < 2
      · rcases (show q = 0 ∨ q = 1 by omega) with rfl | rfl
        · obtain ⟨hm0⟩ : Aside0 (k = m) := ⟨by rcases HC.out with ⟨_, h⟩ | ⟨h, _⟩ | ⟨h, _⟩; exact h.symm; cases h; cases h⟩
          subst hm0
          by_cases hkid : 2 * k + 1 < L1.length
          · obtain ⟨x, hx⟩ : ∃ x, L1[2 * k + 1]? = some x := ⟨_, List.getElem?_eq_getElem hkid⟩
            obtain ⟨y, hy⟩ : ∃ y, L1[k]? = some y := ⟨_, List.getElem?_eq_getElem Hm.out⟩
            obtain ⟨g, cap, hsv⟩ := HR1.out.slice (by omega)
            have c1 : wr.cell? ⟨hb, 1, none⟩ = some (.slice (some ⟨g, 0, none⟩) L1.length cap) := (blk_cell HR1.out.head 1).trans (by rw [hsv]; rfl)
            have t1 : decide (2 * (k : Int) + 1 < (L1.length : Int)) = true := by simp; omega
            have HX := Aside0.mk hx
            have HY := Aside0.mk hy
            clear hx hy hsv
            go_wp2_with fail
            refine (ahead_rep HL.out hb pb sv L1 c _ (2 * k + 1) k x y HX.out HY.out HR1.out HI1.out).mono ?_
            rintro e w1 ⟨r, rfl, hA, hI1, hK1⟩
            have HA := Aside0.mk hA
            have HJ := Aside0.mk hI1
            have HR2 := Aside0.mk (HR1.out.kept hK1 (fun k hk => HR1.out.low (HL.out.low k hk)))
            have HK2 : Aside0 (Kp w w1 (fun k => Mine hb pb sv k ∨ S k)) := ⟨HK1.out.then_ hK1 (fun k hk => .inl (.inr hk))⟩
            clear hA hI1 hK1 HR1 HI1 HK1
            cases r with
            | false =>
              go_wp2
              go_roundw
              case measure => simp [intOf]
              case rel => exact ⟨1, k, by omega, by omega, rfl, by go_num, Hm, HR2, HJ, HK2, ⟨.inr (.inl ⟨rfl, (.inr ⟨x, y, false, HX.out, HY.out, HA.out, rfl⟩)⟩)⟩⟩
            | true =>
              go_wp2
              go_roundw
              case measure => simp [intOf]
              case rel => exact ⟨1, 2 * k + 1, by omega, by omega, by go_num, by go_num, ⟨hkid⟩, HR2, HJ, HK2, ⟨.inr (.inl ⟨rfl, (.inr ⟨x, y, true, HX.out, HY.out, HA.out, rfl⟩)⟩)⟩⟩
          · have t1 : decide (2 * (k : Int) + 1 < (L1.length : Int)) = false := by simp; omega
            have c1 : ∃ sv2 cap, wr.cell? ⟨hb, 1, none⟩ = some (.slice sv2 L1.length cap) := by
              obtain ⟨g, cap, hsv⟩ := HR1.out.slice (by have := Hm.out; omega)
              exact ⟨some ⟨g, 0, none⟩, cap, (blk_cell HR1.out.head 1).trans (by rw [hsv]; rfl)⟩
            obtain ⟨sv2, cap, c1⟩ := c1
            go_wp2
            go_roundw
            case measure => simp [intOf]
            case rel => exact ⟨1, k, by omega, by omega, rfl, by go_num, Hm, HR1, HI1, HK1, ⟨.inr (.inl ⟨rfl, (.inl ⟨by omega, rfl⟩)⟩)⟩⟩
        · have HQ : Aside0 (Pick A L1 k (2 * k + 1) m) := ⟨by rcases HC.out with ⟨h, _⟩ | ⟨_, h⟩ | ⟨h, _⟩; cases h; exact h; cases h⟩
          by_cases hkid : 2 * k + 2 < L1.length
          · obtain ⟨x, hx⟩ : ∃ x, L1[2 * k + 2]? = some x := ⟨_, List.getElem?_eq_getElem hkid⟩
            obtain ⟨y, hy⟩ : ∃ y, L1[m]? = some y := ⟨_, List.getElem?_eq_getElem Hm.out⟩
            obtain ⟨g, cap, hsv⟩ := HR1.out.slice (by omega)
            have c1 : wr.cell? ⟨hb, 1, none⟩ = some (.slice (some ⟨g, 0, none⟩) L1.length cap) := (blk_cell HR1.out.head 1).trans (by rw [hsv]; rfl)
            have t1 : decide (2 * (k : Int) + 2 < (L1.length : Int)) = true := by simp; omega
            have HX := Aside0.mk hx
            have HY := Aside0.mk hy
            clear hx hy hsv
            go_wp2_with fail
            refine (ahead_rep HL.out hb pb sv L1 c _ (2 * k + 2) m x y HX.out HY.out HR1.out HI1.out).mono ?_
            rintro e w1 ⟨r, rfl, hA, hI1, hK1⟩
            have HA := Aside0.mk hA
            have HJ := Aside0.mk hI1
            have HR2 := Aside0.mk (HR1.out.kept hK1 (fun k hk => HR1.out.low (HL.out.low k hk)))
            have HK2 : Aside0 (Kp w w1 (fun k => Mine hb pb sv k ∨ S k)) := ⟨HK1.out.then_ hK1 (fun k hk => .inl (.inr hk))⟩
            clear hA hI1 hK1 HR1 HI1 HK1
            cases r with
            | false =>
              go_wp2
              go_roundw
              case measure => simp [intOf]
              case rel => exact ⟨2, m, by omega, by omega, rfl, by go_num, Hm, HR2, HJ, HK2, ⟨.inr (.inr ⟨rfl, m, HQ.out, (.inr ⟨x, y, false, HX.out, HY.out, HA.out, rfl⟩)⟩)⟩⟩
            | true =>
              go_wp2
              go_roundw
              case measure => simp [intOf]
              case rel => exact ⟨2, 2 * k + 2, by omega, by omega, by go_num, by go_num, ⟨hkid⟩, HR2, HJ, HK2, ⟨.inr (.inr ⟨rfl, m, HQ.out, (.inr ⟨x, y, true, HX.out, HY.out, HA.out, rfl⟩)⟩)⟩⟩
          · have t1 : decide (2 * (k : Int) + 2 < (L1.length : Int)) = false := by simp; omega
            have c1 : ∃ sv2 cap, wr.cell? ⟨hb, 1, none⟩ = some (.slice sv2 L1.length cap) := by
              obtain ⟨g, cap, hsv⟩ := HR1.out.slice (by have := Hm.out; omega)
              exact ⟨some ⟨g, 0, none⟩, cap, (blk_cell HR1.out.head 1).trans (by rw [hsv]; rfl)⟩
            obtain ⟨sv2, cap, c1⟩ := c1
            go_wp2
            go_roundw
            case measure => simp [intOf]
            case rel => exact ⟨2, m, by omega, by omega, rfl, by go_num, Hm, HR1, HI1, HK1, ⟨.inr (.inr ⟨rfl, m, HQ.out, (.inl ⟨by omega, rfl⟩)⟩)⟩⟩
      · obtain rfl : q = 2 := by omega
        have HQ : Aside0 (∃ m1, Pick A L1 k (2 * k + 1) m1 ∧ Pick A L1 m1 (2 * k + 2) m) := ⟨by rcases HC.out with ⟨h, _⟩ | ⟨h, _⟩ | ⟨_, h⟩; cases h; cases h; exact h⟩
        clear HC
        by_cases hmk : m = k
        · have te : ((m : Int) == (k : Int)) = true := by simp; omega
          have HE := Aside0.mk hmk
          clear hmk
          go_wp2
          refine bodyPost_ret (results_none rfl _ _ _) rfl ?_
          exact ⟨rfl, L1, HU.out _ (by obtain ⟨m1, h1, h2⟩ := HQ.out; have e := HE.out; subst e; exact .stop h1 h2), HR1.out, HP.out, HI1.out, HK1.out⟩
        · have te : ((m : Int) == (k : Int)) = false := by simp; omega
          obtain ⟨x, hx⟩ : ∃ x, L1[k]? = some x := ⟨_, List.getElem?_eq_getElem Hk.out⟩
          obtain ⟨y, hy⟩ : ∃ y, L1[m]? = some y := ⟨_, List.getElem?_eq_getElem Hm.out⟩
          have HX := Aside0.mk hx
          have HY := Aside0.mk hy
          clear hx hy
          go_wp2_with fail
          refine (swap_calls base hb pb lv sv L1 c _ k m Hk.out Hm.out HR1.out).mono ?_
          rintro e w2 ⟨rfl, hR3, hK3⟩
          have HR3 := Aside0.mk hR3
          have HK3 : Aside0 (Kp w w2 (fun k => Mine hb pb sv k ∨ S k)) := ⟨HK1.out.then_ hK3 (fun k hk => .inl (.inl (.inr hk)))⟩
          have HJ3 : Aside0 (I w2) := ⟨HL.out.stable _ _ HI1.out (fun k hk => kept_low HR1.out (hK3.mono (fun k hk => .inr hk)) hk)⟩
          have hgt : k < m := by
            obtain ⟨m1, h1, h2⟩ := HQ.out
            rcases h2.cases with h | h
            · rcases h1.cases with h' | h' <;> omega
            · omega
          have hml : m < L0.length := by have := HP.out.length_eq; have := Hm.out; omega
          clear hR3 hK3
          go_wp2
          go_roundw
          case measure => simp [intOf]; omega
          case rel => exact ⟨m, swp L1 k m, by go_num, ⟨by rw [swp_len]; exact Hm.out⟩, HR3, ⟨(swp_perm HX.out HY.out).trans HP.out⟩, HJ3, HK3, ⟨fun L2 h => HU.out _ (by obtain ⟨m1, h1, h2⟩ := HQ.out; exact .go h1 h2 hmk h)⟩⟩
end Go.Proofs.Ytiocnkoogachkaa.Hii
