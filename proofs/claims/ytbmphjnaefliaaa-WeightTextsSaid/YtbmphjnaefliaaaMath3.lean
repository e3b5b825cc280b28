/- This text proves in plain Lean that the steps by which the reference adds two costs come to the nearest rung. -/
import Derived.Test.YtbmphjnaefliaaaMath2
namespace Go.Proofs.Ytbmphjnaefliaaa.Math
open Ieee

/-- the sum in units of the lesser one's place -/
def sm (a b : Nat) : Nat := mg a * 2 ^ (ex a - ex b) + mg b
theorem sm_eq (a b : Nat) (h : ex b ≤ ex a) : V a + V b = sm a b * 2 ^ ex b := by
  unfold V sm
  rw [Nat.add_mul, Nat.mul_assoc, ← Nat.pow_add, show ex a - ex b + ex b = ex a by omega]
theorem sm_log (a b : Nat) : 23 ≤ (sm a b).log2 ∨ ex b = 0 := by
  by_cases h0 : ex b = 0
  · exact .inr h0
  · exact .inl (log2_ge (by have := mg_hi (r := b) (by omega); unfold sm; omega))

theorem rung_scale (s eb : Nat) (h : 23 ≤ s.log2 ∨ eb = 0) :
    rung (s * 2 ^ eb) = (s.log2 - 23 + eb) * 8388608 + (s / 2 ^ (s.log2 - 23) + up (2 ^ (s.log2 - 23)) (s / 2 ^ (s.log2 - 23)) (s % 2 ^ (s.log2 - 23))) := by
  by_cases he : eb = 0
  · subst he; simp [rung]
  by_cases h0 : s = 0
  · subst h0; simp at h; omega
  have h1 : 23 ≤ s.log2 := by omega
  have hX : (s * 2 ^ eb).log2 - 23 = (s.log2 - 23) + eb := by rw [log2_mul s eb h0]; omega
  unfold rung
  rw [hX]
  generalize s.log2 - 23 = d
  have hp : 0 < 2 ^ eb := Nat.two_pow_pos _
  have e1 : s * 2 ^ eb / 2 ^ (d + eb) = s / 2 ^ d := by rw [Nat.pow_add, Nat.mul_div_mul_right _ _ hp]
  have e2 : s * 2 ^ eb % 2 ^ (d + eb) = s % 2 ^ d * 2 ^ eb := by rw [Nat.pow_add, Nat.mul_mod_mul_right]
  rw [e1, e2]
  have c1 : 2 ^ (d + eb) < 2 * (s % 2 ^ d * 2 ^ eb) ↔ 2 ^ d < 2 * (s % 2 ^ d) := by
    rw [Nat.pow_add, ← Nat.mul_assoc]; exact Nat.mul_lt_mul_right hp
  have c2 : 2 ^ (d + eb) = 2 * (s % 2 ^ d * 2 ^ eb) ↔ 2 ^ d = 2 * (s % 2 ^ d) := by
    rw [Nat.pow_add, ← Nat.mul_assoc]; exact Nat.mul_left_inj (by omega)
  unfold up
  simp only [c1, c2]

theorem sm_bd (a b : Nat) (h : ex a - ex b ≤ 25) : sm a b < 2 ^ 50 := by
  unfold sm
  have h1 := mg_lt a
  have h2 := mg_lt b
  have h3 : 2 ^ (ex a - ex b) ≤ 2 ^ 25 := Nat.pow_le_pow_right (by omega) h
  have h4 : mg a * 2 ^ (ex a - ex b) ≤ 16777215 * 2 ^ 25 := Nat.mul_le_mul (by omega) h3
  omega

theorem far_log (m n d : Nat) (hm : 8388608 ≤ m) (hm2 : m < 16777216) (hn : n < 16777216) (hd : 26 ≤ d) : (m * 2 ^ d + n).log2 = 23 + d := by
  have h2 : 2 ^ 26 ≤ 2 ^ d := Nat.pow_le_pow_right (by omega) hd
  refine log2_eq ?_ ?_
  · rw [Nat.pow_add]
    generalize 2 ^ d = g at *
    have : 8388608 * g ≤ m * g := Nat.mul_le_mul_right _ hm
    omega
  · rw [show 23 + d + 1 = 24 + d by omega, Nat.pow_add]
    generalize 2 ^ d = g at *
    have h1 : (m + 1) * g ≤ 16777216 * g := Nat.mul_le_mul_right _ (by omega)
    rw [Nat.add_mul] at h1
    omega

theorem far_div (m n g : Nat) (hn : n < g) : (m * g + n) / g = m ∧ (m * g + n) % g = n := by
  constructor
  · rw [Nat.mul_comm, Nat.mul_add_div (by omega), Nat.div_eq_of_lt hn]; omega
  · rw [Nat.mul_comm, Nat.mul_add_mod, Nat.mod_eq_of_lt hn]

theorem rnd_far (a b : Nat) (h : ex b + 26 ≤ ex a) (ha : a < 2139095040) : rnd (V a + V b) = a := by
  have hm : 8388608 ≤ mg a := mg_hi (by omega)
  have hm2 := mg_lt a
  have hb := mg_lt b
  have hL : (sm a b).log2 - 23 = ex a - ex b := by
    unfold sm
    rw [far_log (mg a) (mg b) (ex a - ex b) hm hm2 hb (by omega)]
    omega
  have h2 : 2 ^ 26 ≤ 2 ^ (ex a - ex b) := Nat.pow_le_pow_right (by omega) (by omega)
  rw [sm_eq a b (by omega)]
  unfold rnd
  rw [rung_scale _ _ (sm_log a b), hL]
  have e := far_div (mg a) (mg b) (2 ^ (ex a - ex b)) (by omega)
  have e1 : sm a b / 2 ^ (ex a - ex b) = mg a := e.1
  have e2 : sm a b % 2 ^ (ex a - ex b) = mg b := e.2
  rw [e1, e2]
  have e3 : up (2 ^ (ex a - ex b)) (mg a) (mg b) = 0 := by unfold up; rw [if_neg (by omega)]
  rw [e3]
  clear e3 e2 e1 e h2 hL
  have hx : ex a = a / 8388608 - 1 := rfl
  have hy : mg a = 8388608 + a % 8388608 := by unfold mg; rw [if_neg (by omega)]
  omega

/-- the last steps -/
theorem rnd_near (a b q : Nat) (h : ex b ≤ ex a) (hq : q = sm a b / 2 ^ ((sm a b).log2 - 23) + up (2 ^ ((sm a b).log2 - 23)) (sm a b / 2 ^ ((sm a b).log2 - 23)) (sm a b % 2 ^ ((sm a b).log2 - 23))) :
    q ≤ 16777216 ∧ (q < 8388608 → (sm a b).log2 - 23 = 0 ∧ ex b = 0) ∧ rnd (V a + V b) = min (((sm a b).log2 - 23 + ex b) * 8388608 + q) 2139095040 := by
  have h1 := quo_hi (sm a b)
  have h2 := up_le (2 ^ ((sm a b).log2 - 23)) (sm a b / 2 ^ ((sm a b).log2 - 23)) (sm a b % 2 ^ ((sm a b).log2 - 23))
  refine ⟨by omega, fun hlt => ?_, ?_⟩
  · have h3 : (sm a b).log2 - 23 = 0 := by
      rcases Nat.eq_zero_or_pos ((sm a b).log2 - 23) with h3 | h3
      · exact h3
      · have := quo_lo (sm a b) h3; omega
    refine ⟨h3, ?_⟩
    rcases sm_log a b with h4 | h4
    · rw [h3] at hq
      have h5 := (log2_bd (sm a b) (by intro h0; rw [h0] at h4; simp at h4)).1
      have h6 : 2 ^ 23 ≤ 2 ^ (sm a b).log2 := Nat.pow_le_pow_right (by omega) h4
      simp at hq
      omega
    · exact h4
  · unfold rnd
    rw [sm_eq a b h, rung_scale _ _ (sm_log a b), ← hq]
end Go.Proofs.Ytbmphjnaefliaaa.Math
