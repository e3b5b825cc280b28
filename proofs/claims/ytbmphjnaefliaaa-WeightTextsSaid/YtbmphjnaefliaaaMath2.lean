/- This text proves in plain Lean that rounding never turns an order round and leaves a rung as it is, and what follows for sums of costs. -/
import Derived.Test.YtbmphjnaefliaaaMath
namespace Go.Proofs.Ytbmphjnaefliaaa.Math
open Ieee

theorem up_mono (g q r s : Nat) (h : r ≤ s) : up g q r ≤ up g q s := by
  unfold up; repeat' split
  all_goals omega

theorem quo_mono (g X Y : Nat) (hg : 0 < g) (h : X ≤ Y) : X / g + up g (X / g) (X % g) ≤ Y / g + up g (Y / g) (Y % g) := by
  have h1 := Nat.div_le_div_right (c := g) h
  rcases Nat.lt_or_ge (X / g) (Y / g) with h2 | h2
  · have := up_le g (X / g) (X % g); omega
  · have h3 : X / g = Y / g := by omega
    have e1 := Nat.div_add_mod X g
    have e2 := Nat.div_add_mod Y g
    rw [h3] at e1 ⊢
    have := up_mono g (Y / g) (X % g) (Y % g) (by omega)
    omega

theorem quo_hi (X : Nat) : X / 2 ^ (X.log2 - 23) < 16777216 := by
  by_cases h0 : X = 0
  · subst h0; simp
  have h1 := (log2_bd X h0).2
  rw [Nat.div_lt_iff_lt_mul (Nat.two_pow_pos _)]
  refine Nat.lt_of_lt_of_le h1 ?_
  rw [show 16777216 = 2 ^ 24 from rfl, ← Nat.pow_add]
  exact Nat.pow_le_pow_right (by omega) (by omega)
theorem quo_lo (X : Nat) (h : 0 < X.log2 - 23) : 8388608 ≤ X / 2 ^ (X.log2 - 23) := by
  have h0 : X ≠ 0 := by rintro rfl; simp at h
  have h1 := (log2_bd X h0).1
  rw [Nat.le_div_iff_mul_le (Nat.two_pow_pos _), show 8388608 = 2 ^ 23 from rfl, ← Nat.pow_add]
  refine Nat.le_trans (Nat.pow_le_pow_right (by omega) (by omega)) h1

theorem log2_mono {X Y : Nat} (h : X ≤ Y) : X.log2 ≤ Y.log2 := by
  by_cases h0 : X = 0
  · subst h0; simp
  · exact log2_ge (Nat.le_trans (log2_bd X h0).1 h)

theorem rung_mono {X Y : Nat} (h : X ≤ Y) : rung X ≤ rung Y := by
  have hl := log2_mono h
  rcases Nat.lt_or_ge (X.log2 - 23) (Y.log2 - 23) with h1 | h1
  · unfold rung
    have a := quo_hi X
    have b := quo_lo Y (by omega)
    have c := up_le (2 ^ (X.log2 - 23)) (X / 2 ^ (X.log2 - 23)) (X % 2 ^ (X.log2 - 23))
    omega
  · have e : X.log2 - 23 = Y.log2 - 23 := by omega
    unfold rung
    rw [e]
    have := quo_mono (2 ^ (Y.log2 - 23)) X Y (Nat.two_pow_pos _) h
    omega

theorem rung_V (r : Nat) : rung (V r) = r := by
  rcases Nat.lt_or_ge r 16777216 with h | h
  · rw [V_lo h, rung_lo h]
  · have hm : 8388608 ≤ mg r := mg_hi (by unfold ex; omega)
    have hm2 := mg_lt r
    have hl : (mg r).log2 = 23 := log2_eq (by omega) (by omega)
    have hL : (V r).log2 - 23 = ex r := by unfold V; rw [log2_mul _ _ (by omega), hl]; omega
    unfold rung
    rw [hL]
    have hp := Nat.two_pow_pos (ex r)
    have e1 : V r / 2 ^ ex r = mg r := by unfold V; rw [Nat.mul_div_cancel _ hp]
    have e2 : V r % 2 ^ ex r = 0 := by unfold V; rw [Nat.mul_mod_left]
    rw [e1, e2]
    have e3 : up (2 ^ ex r) (mg r) 0 = 0 := by unfold up; rw [if_neg (by omega)]
    rw [e3]
    unfold ex mg
    rw [if_neg (by omega)]
    omega

/-! costs -/
/-- what a word counts as -/
def cnt (x : Nat) : Nat := if x = 2147483648 then 0 else if x > 2139095040 then 2139095040 else x
theorem cnt_le (x : Nat) : cnt x ≤ 2139095040 := by unfold cnt; split <;> (try split) <;> omega
/-- the sum of two words -/
def addW (a b : Nat) : Nat := if cnt a = 2139095040 ∨ cnt b = 2139095040 then 2139095040 else rnd (V (cnt a) + V (cnt b))

theorem add_cnt (a b : Nat) : single.add (cnt a) (cnt b) = some (addW a b) := by
  unfold addW
  have h1 := cnt_le a
  have h2 := cnt_le b
  by_cases h : cnt a = 2139095040 ∨ cnt b = 2139095040
  · rw [if_pos h, add_inf _ _ h1 h2 h]
  · rw [if_neg h, add_num _ _ (by omega) (by omega)]

theorem addW_le (a b : Nat) : addW a b ≤ 2139095040 := by
  unfold addW rnd; split <;> omega
theorem cnt_id {x : Nat} (h : x ≤ 2139095040) : cnt x = x := by unfold cnt; rw [if_neg (by omega), if_neg (by omega)]

theorem addW_comm (a b : Nat) : addW a b = addW b a := by
  unfold addW
  rw [Nat.add_comm (V (cnt a))]
  simp only [or_comm]

theorem addW_ge (a b : Nat) (ha : a ≤ 2139095040) : a ≤ addW a b := by
  unfold addW
  split
  · exact ha
  · rw [cnt_id ha]
    unfold rnd
    have h := rung_mono (Nat.le_add_right (V a) (V (cnt b)))
    rw [rung_V] at h
    omega

theorem addW_mono (a b c : Nat) (ha : a ≤ 2139095040) (hb : b ≤ 2139095040) (h : a ≤ b) : addW a c ≤ addW b c := by
  unfold addW
  rw [cnt_id ha, cnt_id hb]
  by_cases hc : cnt c = 2139095040
  · rw [if_pos (.inr hc), if_pos (.inr hc)]; omega
  · by_cases hb1 : b = 2139095040
    · rw [if_pos (c := b = 2139095040 ∨ _) (.inl hb1)]
      split
      · omega
      · unfold rnd; omega
    · rw [if_neg (by omega), if_neg (by omega)]
      unfold rnd
      have := rung_mono (Nat.add_le_add_right (V_le h) (V (cnt c)))
      omega

theorem addW_zero (a : Nat) (ha : a ≤ 2139095040) : addW a 0 = a := by
  unfold addW
  rw [cnt_id ha, cnt_id (by omega : 0 ≤ 2139095040)]
  by_cases h : a = 2139095040
  · rw [if_pos (.inl h), h]
  · rw [if_neg (by omega), show V 0 = 0 from by decide, Nat.add_zero]
    unfold rnd
    rw [rung_V]
    omega
end Go.Proofs.Ytbmphjnaefliaaa.Math
