/- This text proves the laws WeightOrder and WeightAdds as walks: true whatever the words. -/
import Derived.Test.YtbmphjnaefliaaaLawA
import Derived.Test.YtbmphjnaefliaaaRadd
namespace Go.Proofs.Ytbmphjnaefliaaa.LawB
open Go.RowKit Go.Proofs.YtbmphjnaefliaaaW.PrintWords
open Go.Proofs.Ytbmphjnaefliaaa Go.Proofs.Ytbmphjnaefliaaa.Flt Go.Proofs.Ytbmphjnaefliaaa.Txt Go.Proofs.Ytbmphjnaefliaaa.Awk
set_option linter.unusedVariables false

theorem addW_lt (x y : Nat) : Math.addW x y < 4294967296 := by have := Math.addW_le x y; omega
theorem bits_add (x y : Nat) : bitsW (Math.addW x y) = Math.addW x y := by
  have := Math.addW_le x y
  unfold bitsW Math.nan
  rw [if_neg (by simp; omega)]

theorem adds_calls (x y : Nat) (hx : x < 4294967296) (hy : y < 4294967296) (w : World) : Calls Try.prog 4 #[.int .u32 x, .int .u32 y] w fun e w' => e = .returned (.bool true) ∧ Below w.heap.size w w' := by
  go_enter Try.func4, Try.ntmps4
  go_wp2_with fail
  refine (awake_calls _).mono ?_
  rintro e w1 ⟨rfl, hb1⟩
  have HB1 := Aside0.mk hb1
  clear hb1
  go_wp2_with fail
  refine (float_calls x _).mono ?_
  rintro e w' ⟨rfl, rfl⟩
  go_wp2_with fail
  refine (float_calls y _).mono ?_
  rintro e w' ⟨rfl, rfl⟩
  go_wp2_with fail
  refine (Flt.add_calls x y hx hy _).mono ?_
  rintro e w' ⟨rfl, rfl⟩
  go_wp2_with fail
  refine (Radd.add_calls x y hx hy _).mono ?_
  rintro e w2 ⟨rfl, hb2⟩
  have HB2 := Aside0.mk (below_step HB1.out hb2)
  clear hb2
  go_wp2_with fail
  refine (is_yes _ (addW_lt x y) (bits_add x y) _).mono ?_
  rintro e w' ⟨rfl, rfl⟩
  go_wp2_with fail
  go_ret
  exact ⟨rfl, HB2.out⟩

theorem place_r (n : Nat) (hn : n < 4294967296) : PWeightOrder.brambleref01_place.f n = some (Math.place n) := by
  unfold PWeightOrder.brambleref01_place.f Math.place
  by_cases h : 2147483648 ≤ n
  · rw [if_pos (show (n : Int) ≥ 2147483648 by omega), if_pos h]
    exact congrArg some (by omega)
  · rw [if_neg (show ¬ (n : Int) ≥ 2147483648 by omega), if_neg h]
    exact congrArg some (by unfold wrap64; omega)

theorem before_r (x y : Nat) (hx : x < 4294967296) (hy : y < 4294967296) : PWeightOrder.brambleref01_Before.f 2 x y = some (FloatKind.f32.format.order x y == some .lt) := by
  unfold PWeightOrder.brambleref01_Before.f PWeightOrder.brambleref01_Nan.f
  simp only [Option.bind_some, PWeightOrder.brambleref01_Before.j0]
  rw [LawA.nan_tmod, LawA.nan_tmod, place_r x hx, place_r y hy]
  by_cases h1 : Math.nan x = true
  · rw [if_pos h1]
    rw [show FloatKind.f32.format.order x y = none from Math.order_nan x y hx hy (.inl h1)]
    rfl
  · rw [if_neg h1]
    by_cases h2 : Math.nan y = true
    · rw [if_pos h2, show FloatKind.f32.format.order x y = none from Math.order_nan x y hx hy (.inr h2)]
      rfl
    · rw [if_neg h2, show FloatKind.f32.format.order x y = _ from Math.order_eq x y hx hy (by simpa using h1) (by simpa using h2)]
      simp only [Option.bind_some, Option.some.injEq]
      have h3 := cmp_lt_iff (Math.place x) (Math.place y)
      by_cases h4 : Math.place x < Math.place y
      · simp [h4, h3.2 h4]
      · have h5 : ¬ compare (Math.place x) (Math.place y) = .lt := fun h => h4 (h3.1 h)
        simp [h4]
        exact fun h => h5 h

theorem order_calls (x y : Nat) (hx : x < 4294967296) (hy : y < 4294967296) (w : World) : Calls Try.prog 5 #[.int .u32 x, .int .u32 y] w fun e w' => e = .returned (.bool true) ∧ Below w.heap.size w w' := by
  have e1 : (FloatKind.f32.format.order 1065353216 1073741824 == some .lt) = true := by decide +kernel
  obtain ⟨bo, hbo⟩ : ∃ bo : Bool, bo = (FloatKind.f32.format.order x y == some .lt) := ⟨_, rfl⟩
  have HO := Aside0.mk hbo
  have hr := before_r x y hx hy
  rw [← hbo] at hr
  have HR := Aside0.mk hr
  clear hbo hr
  have hq : (bo == bo) = true := by simp
  go_enter Try.func5, Try.ntmps5
  go_wp2_with fail
  refine (awake_calls _).mono ?_
  rintro e w1 ⟨rfl, hb1⟩
  have HB1 := Aside0.mk hb1
  clear hb1
  go_wp2_with fail
  refine (before_calls 1065353216 1073741824 _).mono ?_
  rw [e1]
  rintro e w' ⟨rfl, rfl⟩
  go_wp2_with fail
  refine (float_calls x _).mono ?_
  rintro e w' ⟨rfl, rfl⟩
  go_wp2_with fail
  refine (float_calls y _).mono ?_
  rintro e w' ⟨rfl, rfl⟩
  go_wp2_with fail
  refine (before_calls x y _).mono ?_
  rw [← HO.out]
  rintro e w' ⟨rfl, rfl⟩
  go_wp2_with fail
  refine (PWeightOrder.brambleref01_Before.calls 2 x y _ _ HR.out).mono ?_
  rintro e w2 ⟨rfl, hd⟩
  have HB2 := Aside0.mk (below_step HB1.out hd.below)
  clear hd
  go_wp2_with fail
  go_ret
  exact ⟨by first | rfl | (simp; done), HB2.out⟩
end Go.Proofs.Ytbmphjnaefliaaa.LawB
