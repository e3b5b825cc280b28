/- This text proves the law WeightRises as a walk: true whatever the words. -/
import Derived.Test.YtbmphjnaefliaaaLawC
namespace Go.Proofs.Ytbmphjnaefliaaa.LawD
open Go.RowKit Go.Proofs.YtbmphjnaefliaaaW.PrintWords
open Go.Proofs.Ytbmphjnaefliaaa Go.Proofs.Ytbmphjnaefliaaa.Flt Go.Proofs.Ytbmphjnaefliaaa.Txt Go.Proofs.Ytbmphjnaefliaaa.Awk Go.Proofs.Ytbmphjnaefliaaa.LawB
set_option linter.unusedVariables false

theorem lt_cost (x y : Nat) (hx : x ≤ 2139095040) (hy : y ≤ 2139095040) : (FloatKind.f32.format.order x y == some .lt) = decide (x < y) := by
  have n1 : Math.nan x = false := by unfold Math.nan; simp; omega
  have n2 : Math.nan y = false := by unfold Math.nan; simp; omega
  rw [show FloatKind.f32.format.order x y = _ from Math.order_eq x y (by omega) (by omega) n1 n2]
  have e1 : Math.place x = x := by unfold Math.place; rw [if_neg (by omega)]
  have e2 : Math.place y = y := by unfold Math.place; rw [if_neg (by omega)]
  rw [e1, e2]
  have h := cmp_lt_iff (x : Int) (y : Int)
  by_cases h1 : x < y
  · have : compare (x : Int) (y : Int) = .lt := h.2 (by omega)
    simp [this, h1]
  · have : ¬ compare (x : Int) (y : Int) = .lt := fun hh => h1 (by have := h.1 hh; omega)
    simp [h1]
    exact this

theorem before_no (x y : Nat) (hx : x ≤ 2139095040) (hy : y ≤ 2139095040) (h : y ≤ x) (w : World) : Calls Try.prog 20 #[.float .f32 x, .float .f32 y] w fun e w' => e = .returned (.bool false) ∧ w = w' := by
  have := before_calls x y w
  rw [lt_cost x y hx hy, show decide (x < y) = false from by simp; omega] at this
  exact this
theorem before_dec (x y : Nat) (hx : x ≤ 2139095040) (hy : y ≤ 2139095040) (w : World) : Calls Try.prog 20 #[.float .f32 x, .float .f32 y] w fun e w' => e = .returned (.bool (decide (x < y))) ∧ w = w' := by
  have := before_calls x y w
  rw [lt_cost x y hx hy] at this
  exact this
theorem cost_yes (x : Nat) (hx : x ≤ 2139095040) (w : World) : Calls Try.prog 15 #[.float .f32 x] w fun e w' => e = .returned (.bool true) ∧ w = w' := by
  have := cost_calls x w
  rw [show decide ((x : Int) ≤ 2139095040) = true from by simp; omega] at this
  exact this
theorem cost_no (x : Nat) (hx : ¬ x ≤ 2139095040) (w : World) : Calls Try.prog 15 #[.float .f32 x] w fun e w' => e = .returned (.bool false) ∧ w = w' := by
  have := cost_calls x w
  rw [show decide ((x : Int) ≤ 2139095040) = false from by simp; omega] at this
  exact this

set_option maxRecDepth 100000 in
theorem rises_no1 (x y z : Nat) (hx : ¬ x ≤ 2139095040) (w : World) : Calls Try.prog 6 #[.int .u32 x, .int .u32 y, .int .u32 z] w fun e w' => e = .returned (.bool true) ∧ Below w.heap.size w w' := by
  have h1 : decide ((2139095040 : Int) < (x : Int)) = true := by simp; omega
  go_enter Try.func6, Try.ntmps6
  go_wp2_with fail
  refine (awake_calls _).mono ?_
  rintro e w1 ⟨rfl, hb1⟩
  have HB1 := Aside0.mk hb1
  clear hb1
  go_wp2_with (first
    | (go_at_call 14; refine (float_calls _ _).mono ?_; rintro e w' ⟨rfl, rfl⟩)
    | (go_at_call 15; refine (cost_no x hx _).mono ?_; rintro e w' ⟨rfl, rfl⟩))
  go_ret
  exact ⟨rfl, HB1.out⟩

set_option maxRecDepth 100000 in
theorem rises_no2 (x y z : Nat) (hx : x ≤ 2139095040) (hy : ¬ y ≤ 2139095040) (w : World) : Calls Try.prog 6 #[.int .u32 x, .int .u32 y, .int .u32 z] w fun e w' => e = .returned (.bool true) ∧ Below w.heap.size w w' := by
  have h1 : decide ((2139095040 : Int) < (x : Int)) = false := by simp; omega
  have h2 : decide ((2139095040 : Int) < (y : Int)) = true := by simp; omega
  go_enter Try.func6, Try.ntmps6
  go_wp2_with fail
  refine (awake_calls _).mono ?_
  rintro e w1 ⟨rfl, hb1⟩
  have HB1 := Aside0.mk hb1
  clear hb1
  go_wp2_with (go_at_call 14; refine (float_calls _ _).mono ?_; rintro e w' ⟨rfl, rfl⟩)
  refine (cost_yes x hx _).mono ?_
  rintro e w' ⟨rfl, rfl⟩
  go_wp2_with fail
  refine (cost_no y hy _).mono ?_
  rintro e w' ⟨rfl, rfl⟩
  go_wp2_with fail
  go_ret
  exact ⟨rfl, HB1.out⟩

set_option maxRecDepth 100000 in
theorem rises_no3 (x y z : Nat) (hx : x ≤ 2139095040) (hy : y ≤ 2139095040) (hz : ¬ z ≤ 2139095040) (w : World) : Calls Try.prog 6 #[.int .u32 x, .int .u32 y, .int .u32 z] w fun e w' => e = .returned (.bool true) ∧ Below w.heap.size w w' := by
  have h1 : decide ((2139095040 : Int) < (x : Int)) = false := by simp; omega
  have h2 : decide ((2139095040 : Int) < (y : Int)) = false := by simp; omega
  have h3 : decide ((2139095040 : Int) < (z : Int)) = true := by simp; omega
  go_enter Try.func6, Try.ntmps6
  go_wp2_with fail
  refine (awake_calls _).mono ?_
  rintro e w1 ⟨rfl, hb1⟩
  have HB1 := Aside0.mk hb1
  clear hb1
  go_wp2_with (go_at_call 14; refine (float_calls _ _).mono ?_; rintro e w' ⟨rfl, rfl⟩)
  refine (cost_yes x hx _).mono ?_
  rintro e w' ⟨rfl, rfl⟩
  go_wp2_with fail
  refine (cost_yes y hy _).mono ?_
  rintro e w' ⟨rfl, rfl⟩
  go_wp2_with fail
  refine (cost_no z hz _).mono ?_
  rintro e w' ⟨rfl, rfl⟩
  go_wp2_with fail
  go_ret
  exact ⟨rfl, HB1.out⟩

set_option maxRecDepth 100000 in
set_option maxHeartbeats 1000000 in
theorem rises_yes (x y z : Nat) (hx : x ≤ 2139095040) (hy : y ≤ 2139095040) (hz : z ≤ 2139095040) (w : World) : Calls Try.prog 6 #[.int .u32 x, .int .u32 y, .int .u32 z] w fun e w' => e = .returned (.bool true) ∧ Below w.heap.size w w' := by
  have p1 := Math.addW_le x z
  have q1 := Math.addW_le y z
  have p2 := Math.addW_ge x z hx
  have q2 := Math.addW_ge y z hy
  have hm : ¬ y < x ∨ Math.addW y z ≥ Math.addW x z ∨ True := .inr (.inr trivial)
  have hmono : ¬ y < x → Math.addW x z ≤ Math.addW y z := fun h => Math.addW_mono x y z hx hy (by omega)
  have hcm := Math.addW_comm x z
  have h0 := Math.addW_zero x hx
  have hbp := bits_add x z
  have hbz := bits_add z x
  have HM := Aside0.mk hmono
  have HC := Aside0.mk hcm
  have HZ := Aside0.mk h0
  have HBP := Aside0.mk hbp
  have HBZ := Aside0.mk hbz
  clear hm hmono hcm h0 hbp hbz
  by_cases hyx : y < x
  all_goals
    go_enter Try.func6, Try.ntmps6
    go_wp2_with fail
    refine (awake_calls _).mono ?_
    rintro e w1 ⟨rfl, hb1⟩
    have HB1 := Aside0.mk hb1
    clear hb1
    go_wp2_with (go_at_call 14; refine (float_calls _ _).mono ?_; rintro e w' ⟨rfl, rfl⟩)
    refine (cost_yes x hx _).mono ?_
    rintro e w' ⟨rfl, rfl⟩
    go_wp2_with fail
    refine (cost_yes y hy _).mono ?_
    rintro e w' ⟨rfl, rfl⟩
    go_wp2_with fail
    refine (cost_yes z hz _).mono ?_
    rintro e w' ⟨rfl, rfl⟩
    go_wp2_with fail
    refine (Flt.add_calls x z (by omega) (by omega) _).mono ?_
    rintro e w' ⟨rfl, rfl⟩
    go_wp2_with fail
    refine (Flt.add_calls y z (by omega) (by omega) _).mono ?_
    rintro e w' ⟨rfl, rfl⟩
    go_wp2_with fail
    refine (before_no _ _ p1 hx p2 _).mono ?_
    rintro e w' ⟨rfl, rfl⟩
    go_wp2_with fail
    refine (before_no _ _ q1 hy q2 _).mono ?_
    rintro e w' ⟨rfl, rfl⟩
    go_wp2_with fail
    refine (cost_yes _ p1 _).mono ?_
    rintro e w' ⟨rfl, rfl⟩
    go_wp2_with fail
    refine (cost_yes _ q1 _).mono ?_
    rintro e w' ⟨rfl, rfl⟩
    go_wp2_with fail
    refine (before_dec y x hy hx _).mono ?_
    first | rw [show decide (y < x) = true from by simpa using hyx] | rw [show decide (y < x) = false from by simpa using hyx]
    rintro e w' ⟨rfl, rfl⟩
    go_wp2_with fail
    try
      refine (before_no _ _ q1 p1 (HM.out hyx) _).mono ?_
      rintro e w' ⟨rfl, rfl⟩
      go_wp2_with fail
    refine (Flt.add_calls x 0 (by omega) (by omega) _).mono ?_
    rw [HZ.out]
    rintro e w' ⟨rfl, rfl⟩
    go_wp2_with fail
    refine (is_yes x (by omega) (by unfold bitsW Math.nan; rw [if_neg (by simp; omega)]) _).mono ?_
    rintro e w' ⟨rfl, rfl⟩
    go_wp2_with fail
    refine (bits_calls _ (addW_lt x z) _).mono ?_
    rw [HBP.out]
    rintro e w' ⟨rfl, rfl⟩
    go_wp2_with fail
    refine (Flt.add_calls z x (by omega) (by omega) _).mono ?_
    rintro e w' ⟨rfl, rfl⟩
    go_wp2_with fail
    refine (bits_calls _ (addW_lt z x) _).mono ?_
    rw [HBZ.out, ← HC.out]
    rintro e w' ⟨rfl, rfl⟩
    go_wp2_with fail
    go_ret
    exact ⟨by first | rfl | (simp; done), HB1.out⟩

theorem rises (a b c : Int) (w : World) (h : (Lit.int .u32 a).wf = true) (k : (Lit.int .u32 b).wf = true) (l : (Lit.int .u32 c).wf = true) : Calls Try.prog 6 #[.int .u32 a, .int .u32 b, .int .u32 c] w fun e w' => e = .returned (.bool true) ∧ Below w.heap.size w w' := by
  obtain ⟨x, rfl, hx⟩ := LawC.u32_nat h
  obtain ⟨y, rfl, hy⟩ := LawC.u32_nat k
  obtain ⟨z, rfl, hz⟩ := LawC.u32_nat l
  by_cases h1 : x ≤ 2139095040
  · by_cases h2 : y ≤ 2139095040
    · by_cases h3 : z ≤ 2139095040
      · exact rises_yes x y z h1 h2 h3 w
      · exact rises_no3 x y z h1 h2 h3 w
    · exact rises_no2 x y z h1 h2 w
  · exact rises_no1 x y z h1 w
end Go.Proofs.Ytbmphjnaefliaaa.LawD
