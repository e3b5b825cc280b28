/- This text proves in plain Lean, with no program in sight, what the sum and the order of single floats are: the word's rung stands for a whole number of least units, sums are rounded to the nearest rung, ties to even. -/
import Ieee.Arith
namespace Go.Proofs.Ytbmphjnaefliaaa.Math
open Ieee

theorem lp : single.leastPlace = -149 := by decide
theorem bi : single.binade = 8388608 := by decide
theorem ir : single.infRung = 2139095040 := by decide
theorem sw : single.signWeight = 2147483648 := by decide
theorem fb : single.fractionBits = 23 := rfl

/-- the digits and the place of a rung -/
def mg (r : Nat) : Nat := if r < 8388608 then r else 8388608 + r % 8388608
def ex (r : Nat) : Nat := r / 8388608 - 1
/-- what a rung stands for, in least units -/
def V (r : Nat) : Nat := mg r * 2 ^ ex r

theorem read_num (x : Nat) (hx : x < 4294967296) (h : x % 2147483648 < 2139095040) :
    single.read x = .number (decide (2147483648 ≤ x)) (mg (x % 2147483648)) (-149 + (ex (x % 2147483648) : Nat)) := by
  have hs : (x / 2147483648 % 2 == 1) = decide (2147483648 ≤ x) := by
    by_cases h1 : 2147483648 ≤ x
    · rw [show x / 2147483648 % 2 = 1 by omega]; simp [h1]
    · rw [show x / 2147483648 % 2 = 0 by omega]; simp [h1]
  unfold Format.read
  simp only [sw, bi, ir, lp, hs]
  by_cases h1 : x % 2147483648 < 8388608
  · rw [if_pos h1]
    simp only [mg, if_pos h1, ex]
    rw [show x % 2147483648 / 8388608 - 1 = 0 by omega]
    rfl
  · rw [if_neg h1, if_pos h]
    simp only [mg, if_neg h1, ex]

theorem read_inf (x : Nat) (hx : x < 4294967296) (h : x % 2147483648 = 2139095040) : single.read x = .infinity (decide (2147483648 ≤ x)) := by
  have hs : (x / 2147483648 % 2 == 1) = decide (2147483648 ≤ x) := by
    by_cases h1 : 2147483648 ≤ x
    · rw [show x / 2147483648 % 2 = 1 by omega]; simp [h1]
    · rw [show x / 2147483648 % 2 = 0 by omega]; simp [h1]
  unfold Format.read
  simp only [sw, bi, ir, lp, hs, h]
  rfl

theorem read_nan (x : Nat) (hx : x < 4294967296) (h : 2139095040 < x % 2147483648) : ∃ b t, single.read x = .nan b t := by
  unfold Format.read
  simp only [sw, bi, ir, lp]
  rw [if_neg (by omega), if_neg (by omega), if_neg (by omega)]
  exact ⟨_, _, rfl⟩

/-! V rises -/
theorem mg_lt (r : Nat) : mg r < 16777216 := by unfold mg; split <;> omega
theorem V_lo {r : Nat} (h : r < 16777216) : V r = r := by
  unfold V ex mg
  split
  · rw [show r / 8388608 - 1 = 0 by omega]; simp
  · rw [show r / 8388608 - 1 = 0 by omega]; simp; omega

theorem V_step (r : Nat) : V r < V (r + 1) := by
  unfold V
  by_cases h0 : r < 8388608
  · have e1 : mg r = r := by simp [mg, h0]
    have e2 : ex r = 0 := by unfold ex; omega
    have e3 : ex (r + 1) = 0 := by unfold ex; omega
    have e4 : r < mg (r + 1) := by unfold mg; split <;> omega
    rw [e1, e2, e3]; simpa using e4
  · by_cases h1 : (r + 1) % 8388608 = 0
    · have e1 : mg r = 16777215 := by simp only [mg, if_neg h0]; omega
      have e2 : mg (r + 1) = 8388608 := by simp only [mg, if_neg (show ¬ r + 1 < 8388608 by omega)]; omega
      have e3 : ex (r + 1) = ex r + 1 := by unfold ex; omega
      rw [e1, e2, e3, Nat.pow_succ]
      have : 0 < 2 ^ ex r := Nat.two_pow_pos _
      omega
    · have e1 : mg (r + 1) = mg r + 1 := by simp only [mg, if_neg h0, if_neg (show ¬ r + 1 < 8388608 by omega)]; omega
      have e3 : ex (r + 1) = ex r := by unfold ex; omega
      rw [e1, e3]
      exact Nat.mul_lt_mul_of_pos_right (by omega) (Nat.two_pow_pos _)

theorem V_lt {a b : Nat} (h : a < b) : V a < V b := by
  induction b with
  | zero => omega
  | succ b ih =>
    rcases Nat.lt_or_ge a b with h1 | h1
    · exact Nat.lt_trans (ih h1) (V_step b)
    · obtain rfl : a = b := by omega
      exact V_step a
theorem V_le {a b : Nat} (h : a ≤ b) : V a ≤ V b := by
  rcases Nat.lt_or_ge a b with h1 | h1
  · exact Nat.le_of_lt (V_lt h1)
  · obtain rfl : a = b := by omega
    exact Nat.le_refl _
theorem V_lt_iff {a b : Nat} : V a < V b ↔ a < b :=
  ⟨fun h => by rcases Nat.lt_or_ge a b with h1 | h1; exact h1; have := V_le h1; omega, V_lt⟩
theorem V_inj {a b : Nat} : V a = V b ↔ a = b :=
  ⟨fun h => by rcases Nat.lt_trichotomy a b with h1 | h1 | h1; (have := V_lt h1; omega); exact h1; (have := V_lt h1; omega), fun h => by rw [h]⟩

/-! rounding -/
/-- one more? -/
def up (g q r : Nat) : Nat := if g < 2 * r ∨ (g = 2 * r ∧ q % 2 = 1) then 1 else 0
/-- the nearest rung to so many least units, were there no end -/
def rung (X : Nat) : Nat := (X.log2 - 23) * 8388608 + (X / 2 ^ (X.log2 - 23) + up (2 ^ (X.log2 - 23)) (X / 2 ^ (X.log2 - 23)) (X % 2 ^ (X.log2 - 23)))
def rnd (X : Nat) : Nat := min (rung X) 2139095040

theorem up_le (g q r : Nat) : up g q r ≤ 1 := by unfold up; split <;> omega

theorem log2_bd (X : Nat) (h : X ≠ 0) : 2 ^ X.log2 ≤ X ∧ X < 2 ^ (X.log2 + 1) := ⟨Nat.log2_self_le h, Nat.lt_log2_self⟩

theorem log2_eq {X k : Nat} (h1 : 2 ^ k ≤ X) (h2 : X < 2 ^ (k + 1)) : X.log2 = k := by
  have h0 : X ≠ 0 := by have := Nat.two_pow_pos k; omega
  have a := (Nat.le_log2 h0).2 h1
  have b := (Nat.log2_lt h0).2 h2
  omega

theorem rung_lo {X : Nat} (h : X < 16777216) : rung X = X := by
  have h1 : X.log2 - 23 = 0 := by
    by_cases h0 : X = 0
    · subst h0; rfl
    · have := (Nat.log2_lt h0 (k := 24)).2 (by omega); omega
  unfold rung
  rw [h1]
  simp [up, Nat.mod_one]

theorem log2_mul (s k : Nat) (h : s ≠ 0) : (s * 2 ^ k).log2 = s.log2 + k := by
  obtain ⟨h1, h2⟩ := log2_bd s h
  have hp := Nat.two_pow_pos k
  refine log2_eq ?_ ?_
  · rw [Nat.pow_add]; exact Nat.mul_le_mul_right _ h1
  · rw [show s.log2 + k + 1 = (s.log2 + 1) + k by omega, Nat.pow_add (n := k)]; exact Nat.mul_lt_mul_of_pos_right h2 hp

/-- the word nearest to s units of place eb -/
theorem nearest_eq (s eb : Nat) (h : 23 ≤ s.log2 ∨ eb = 0) : single.nearest false s (-149 + (eb : Int)) = rnd (s * 2 ^ eb) := by
  by_cases h0 : s = 0
  · subst h0
    simp [Format.nearest, Format.word, rnd, rung_lo]
  unfold Format.nearest
  rw [if_neg h0]
  simp only [fb, lp, bi, ir, Format.word]
  by_cases h1 : 23 ≤ s.log2
  · have hl : max (-149 + (eb : Int) + (s.log2 : Int) - (23 : Nat)) (-149) = -149 + ((eb + (s.log2 - 23) : Nat) : Int) := by omega
    rw [hl]
    have d1 : (-149 + (eb : Int) - (-149 + ((eb + (s.log2 - 23) : Nat) : Int))).toNat = 0 := by omega
    have d2 : (-149 + ((eb + (s.log2 - 23) : Nat) : Int) - (-149 + (eb : Int))).toNat = s.log2 - 23 := by omega
    have d3 : (-149 + ((eb + (s.log2 - 23) : Nat) : Int) - -149).toNat = eb + (s.log2 - 23) := by omega
    rw [d1, d2, d3]
    have hX : (s * 2 ^ eb).log2 - 23 = (s.log2 - 23) + eb := by rw [log2_mul s eb h0]; omega
    unfold rnd rung
    rw [hX]
    simp only [Toward.cut, Nat.shiftLeft_zero, Nat.one_shiftLeft]
    rw [show min (s.log2 - 23) (s.log2 + 2) = s.log2 - 23 by omega]
    generalize s.log2 - 23 = d
    have hp : 0 < 2 ^ eb := Nat.two_pow_pos _
    have e1 : s * 2 ^ eb / 2 ^ (d + eb) = s / 2 ^ d := by rw [Nat.pow_add, Nat.mul_div_mul_right _ _ hp]
    have e2 : s * 2 ^ eb % 2 ^ (d + eb) = s % 2 ^ d * 2 ^ eb := by rw [Nat.pow_add, Nat.mul_mod_mul_right]
    rw [e1, e2]
    have e3 : up (2 ^ (d + eb)) (s / 2 ^ d) (s % 2 ^ d * 2 ^ eb) = (decide (2 ^ d < 2 * (s % 2 ^ d)) || (2 ^ d == 2 * (s % 2 ^ d) && s / 2 ^ d % 2 == 1)).toNat := by
      unfold up
      have c1 : 2 ^ (d + eb) < 2 * (s % 2 ^ d * 2 ^ eb) ↔ 2 ^ d < 2 * (s % 2 ^ d) := by
        rw [Nat.pow_add, ← Nat.mul_assoc]; exact Nat.mul_lt_mul_right hp
      have c2 : 2 ^ (d + eb) = 2 * (s % 2 ^ d * 2 ^ eb) ↔ 2 ^ d = 2 * (s % 2 ^ d) := by
        rw [Nat.pow_add, ← Nat.mul_assoc]; exact Nat.mul_left_inj (by omega)
      by_cases q1 : 2 ^ d < 2 * (s % 2 ^ d)
      · rw [if_pos (Or.inl (c1.2 q1))]; simp [q1]
      · by_cases q2 : 2 ^ d = 2 * (s % 2 ^ d) ∧ s / 2 ^ d % 2 = 1
        · rw [if_pos (Or.inr ⟨c2.2 q2.1, q2.2⟩)]; simp [q2.2, ← q2.1]
        · rw [if_neg (by rw [c1, c2]; exact fun h => h.elim q1 q2)]
          have hq : (2 ^ d == 2 * (s % 2 ^ d) && s / 2 ^ d % 2 == 1) = false := by
            rw [Bool.eq_false_iff]; simpa using q2
          rw [hq]; simp [q1]
    rw [e3, Nat.add_comm eb d]
    simp
  · have he : eb = 0 := by omega
    subst he
    have hl : max (-149 + ((0 : Nat) : Int) + (s.log2 : Int) - (23 : Nat)) (-149) = -149 := by omega
    rw [hl]
    have hlt : s < 16777216 := by have := (log2_bd s h0).2; have h2 : 2 ^ (s.log2 + 1) ≤ 2 ^ 24 := Nat.pow_le_pow_right (by omega) (by omega); omega
    simp only [rnd, Nat.pow_zero, Nat.mul_one, rung_lo hlt]
    simp [Toward.cut, Nat.mod_one]

/-! the sum of two costs -/
theorem mg_hi {r : Nat} (h : 0 < ex r) : 8388608 ≤ mg r := by
  unfold ex at h; unfold mg; split <;> omega

theorem log2_ge {X k : Nat} (h : 2 ^ k ≤ X) : k ≤ X.log2 := by
  have h0 : X ≠ 0 := by have := Nat.two_pow_pos k; omega
  exact (Nat.le_log2 h0).2 h

theorem sum_le (ma mb ea eb : Nat) (h : eb ≤ ea) (hb : 0 < eb → 8388608 ≤ mb) :
    ((Datum.number false ma (-149 + (ea : Int))).sum (.number false mb (-149 + (eb : Int)))).map single.write = some (rnd (ma * 2 ^ ea + mb * 2 ^ eb)) ∧
    ((Datum.number false mb (-149 + (eb : Int))).sum (.number false ma (-149 + (ea : Int)))).map single.write = some (rnd (ma * 2 ^ ea + mb * 2 ^ eb)) := by
  have m1 : min (-149 + (ea : Int)) (-149 + (eb : Int)) = -149 + (eb : Int) := by omega
  have m2 : min (-149 + (eb : Int)) (-149 + (ea : Int)) = -149 + (eb : Int) := by omega
  have d1 : (-149 + (ea : Int) - (-149 + (eb : Int))).toNat = ea - eb := by omega
  have d2 : (-149 + (eb : Int) - (-149 + (eb : Int))).toNat = 0 := by omega
  have hX : (ma * 2 ^ (ea - eb) + mb) * 2 ^ eb = ma * 2 ^ ea + mb * 2 ^ eb := by
    rw [Nat.add_mul, Nat.mul_assoc, ← Nat.pow_add, show ea - eb + eb = ea by omega]
  have hn : 23 ≤ (ma * 2 ^ (ea - eb) + mb).log2 ∨ eb = 0 := by
    by_cases h0 : eb = 0
    · exact .inr h0
    · exact .inl (log2_ge (by have := hb (by omega); omega))
  have hq : single.nearest false (ma * 2 ^ (ea - eb) + mb) (-149 + (eb : Int)) = rnd (ma * 2 ^ ea + mb * 2 ^ eb) := by rw [nearest_eq _ _ hn, hX]
  constructor
  · simp only [Datum.sum, m1, d1, d2, signed, Nat.shiftLeft_zero, Nat.shiftLeft_eq, Nat.pow_zero, Nat.mul_one, Option.map_some, Format.write, Bool.and_self, Bool.false_eq_true, if_false]
    rw [← hq]
    generalize ma * 2 ^ (ea - eb) = z
    have : ((z : Int) + (mb : Int)).natAbs = z + mb := by omega
    rw [this]
    have hd : decide ((z : Int) + (mb : Int) < 0) = false := by simp; omega
    rw [hd]
    simp
  · simp only [Datum.sum, m2, d1, d2, signed, Nat.shiftLeft_zero, Nat.shiftLeft_eq, Nat.pow_zero, Nat.mul_one, Option.map_some, Format.write, Bool.and_self, Bool.false_eq_true, if_false]
    rw [← hq]
    generalize ma * 2 ^ (ea - eb) = z
    have : ((mb : Int) + (z : Int)).natAbs = z + mb := by omega
    rw [this]
    have hd : decide ((mb : Int) + (z : Int) < 0) = false := by simp; omega
    rw [hd]
    simp

theorem ex_mono {a b : Nat} (h : a ≤ b) : ex a ≤ ex b := by unfold ex; omega

theorem add_num (a b : Nat) (ha : a < 2139095040) (hb : b < 2139095040) : single.add a b = some (rnd (V a + V b)) := by
  unfold Format.add
  rw [read_num a (by omega) (by omega), read_num b (by omega) (by omega)]
  rw [show a % 2147483648 = a by omega, show b % 2147483648 = b by omega, show decide (2147483648 ≤ a) = false by simp; omega, show decide (2147483648 ≤ b) = false by simp; omega]
  unfold V
  rcases Nat.le_total (ex b) (ex a) with h | h
  · exact (sum_le _ _ _ _ h mg_hi).1
  · rw [Nat.add_comm]; exact (sum_le _ _ _ _ h mg_hi).2

theorem add_inf (a b : Nat) (ha : a ≤ 2139095040) (hb : b ≤ 2139095040) (h : a = 2139095040 ∨ b = 2139095040) : single.add a b = some 2139095040 := by
  unfold Format.add
  have hi : single.read 2139095040 = .infinity false := by rw [read_inf _ (by omega) (by omega)]; rfl
  have hw : single.write (.infinity false) = 2139095040 := by decide
  rcases Nat.lt_or_ge a 2139095040 with h1 | h1
  · rw [read_num a (by omega) (by omega), show b = 2139095040 by omega, hi]
    simp [Datum.sum, hw]
  · obtain rfl : a = 2139095040 := by omega
    rcases Nat.lt_or_ge b 2139095040 with h2 | h2
    · rw [read_num b (by omega) (by omega), hi]
      simp [Datum.sum, hw]
    · obtain rfl : b = 2139095040 := by omega
      rw [hi]
      simp [Datum.sum, hw]

/-! the order -/
/-- words that are no NaN in their order -/
def place (x : Nat) : Int := if 2147483648 ≤ x then -((x - 2147483648 : Nat) : Int) else x

theorem cmp_def (a b : Int) : compare a b = if a < b then .lt else if a = b then .eq else .gt := rfl

theorem cmp_eq {a b c d : Int} (h1 : a < b ↔ c < d) (h2 : a = b ↔ c = d) : compare a b = compare c d := by
  rw [cmp_def, cmp_def]; simp only [h1, h2]

/-- a sign and so many units -/
def sg (n : Bool) (v : Nat) : Int := if n then -(v : Int) else v

theorem sg_lt (s t : Bool) (a b : Nat) : sg s (V a) < sg t (V b) ↔ sg s a < sg t b := by
  have h1 := V_lt_iff (a := a) (b := b)
  have h2 := V_lt_iff (a := b) (b := a)
  have h3 := V_inj (a := a) (b := b)
  have h4 : V a = 0 ↔ a = 0 := by rw [show (0 : Nat) = V 0 from by decide, V_inj]; rfl
  have h5 : V b = 0 ↔ b = 0 := by rw [show (0 : Nat) = V 0 from by decide, V_inj]; rfl
  cases s <;> cases t <;> simp only [sg, if_true, Bool.false_eq_true, if_false] <;> omega
theorem sg_eq (s t : Bool) (a b : Nat) : sg s (V a) = sg t (V b) ↔ sg s a = sg t b := by
  have h3 := V_inj (a := a) (b := b)
  have h4 : V a = 0 ↔ a = 0 := by rw [show (0 : Nat) = V 0 from by decide, V_inj]; rfl
  have h5 : V b = 0 ↔ b = 0 := by rw [show (0 : Nat) = V 0 from by decide, V_inj]; rfl
  cases s <;> cases t <;> simp only [sg, if_true, Bool.false_eq_true, if_false] <;> omega

theorem signed_eq (s : Bool) (m k : Nat) : signed s m k = sg s (m * 2 ^ k) := by
  cases s <;> simp [signed, sg, Nat.shiftLeft_eq]

theorem sg_scale (s t : Bool) (a b k : Nat) : (sg s a < sg t b ↔ sg s (a * 2 ^ k) < sg t (b * 2 ^ k)) ∧ (sg s a = sg t b ↔ sg s (a * 2 ^ k) = sg t (b * 2 ^ k)) := by
  have hp := Nat.two_pow_pos k
  have h1 : a * 2 ^ k < b * 2 ^ k ↔ a < b := Nat.mul_lt_mul_right hp
  have h2 : b * 2 ^ k < a * 2 ^ k ↔ b < a := Nat.mul_lt_mul_right hp
  have h3 : a * 2 ^ k = b * 2 ^ k ↔ a = b := Nat.mul_left_inj (by omega)
  have h4 : a * 2 ^ k = 0 ↔ a = 0 := by rw [Nat.mul_eq_zero]; omega
  have h5 : b * 2 ^ k = 0 ↔ b = 0 := by rw [Nat.mul_eq_zero]; omega
  cases s <;> cases t <;> simp only [sg, if_true, Bool.false_eq_true, if_false] <;> omega

theorem order_num (s t : Bool) (a b : Nat) : Datum.order (.number s (mg a) (-149 + (ex a : Nat))) (.number t (mg b) (-149 + (ex b : Nat))) = some (compare (sg s a) (sg t b)) := by
  simp only [Datum.order, signed_eq]
  congr 1
  have h1 : mg a * 2 ^ (-149 + (ex a : Int) - min (-149 + (ex a : Int)) (-149 + (ex b : Int))).toNat * 2 ^ (min (ex a) (ex b)) = V a := by
    unfold V; rw [Nat.mul_assoc, ← Nat.pow_add]; congr 2; omega
  have h2 : mg b * 2 ^ (-149 + (ex b : Int) - min (-149 + (ex a : Int)) (-149 + (ex b : Int))).toNat * 2 ^ (min (ex a) (ex b)) = V b := by
    unfold V; rw [Nat.mul_assoc, ← Nat.pow_add]; congr 2; omega
  have h3 := sg_scale s t (mg a * 2 ^ (-149 + (ex a : Int) - min (-149 + (ex a : Int)) (-149 + (ex b : Int))).toNat) (mg b * 2 ^ (-149 + (ex b : Int) - min (-149 + (ex a : Int)) (-149 + (ex b : Int))).toNat) (min (ex a) (ex b))
  rw [h1, h2, sg_lt, sg_eq] at h3
  exact cmp_eq h3.1 h3.2

def nan (x : Nat) : Bool := decide (2139095040 < x % 2147483648)

theorem order_nan (x y : Nat) (hx : x < 4294967296) (hy : y < 4294967296) (h : nan x = true ∨ nan y = true) : single.order x y = none := by
  unfold Format.order
  unfold nan at h
  simp only [decide_eq_true_eq] at h
  by_cases h1 : 2139095040 < x % 2147483648
  · obtain ⟨b, t, hr⟩ := read_nan x hx h1
    rw [hr]; simp [Datum.order]
  · obtain ⟨b, t, hr⟩ := read_nan y hy (by omega)
    rw [hr]
    cases single.read x <;> simp [Datum.order]

theorem place_sg (x : Nat) (hx : x < 4294967296) : place x = sg (decide (2147483648 ≤ x)) (x % 2147483648) := by
  unfold place sg
  by_cases h : 2147483648 ≤ x
  · simp only [h, if_true, decide_true]; omega
  · simp only [h, if_false, decide_false, Bool.false_eq_true]; omega

theorem order_eq (x y : Nat) (hx : x < 4294967296) (hy : y < 4294967296) (h1 : nan x = false) (h2 : nan y = false) : single.order x y = some (compare (place x) (place y)) := by
  unfold nan at h1 h2
  simp only [decide_eq_false_iff_not] at h1 h2
  rw [place_sg x hx, place_sg y hy]
  unfold Format.order
  rcases Nat.lt_or_ge (x % 2147483648) 2139095040 with a | a
  · rcases Nat.lt_or_ge (y % 2147483648) 2139095040 with b | b
    · rw [read_num x hx a, read_num y hy b, order_num]
    · rw [read_num x hx a, read_inf y hy (by omega), show y % 2147483648 = 2139095040 by omega]
      generalize decide (2147483648 ≤ x) = s
      generalize decide (2147483648 ≤ y) = t
      cases s <;> cases t <;> simp only [Datum.order, sg, cmp_def, if_true, Bool.false_eq_true, if_false, Option.some.injEq] <;> (repeat' split) <;> first | rfl | omega
  · rcases Nat.lt_or_ge (y % 2147483648) 2139095040 with b | b
    · rw [read_inf x hx (by omega), read_num y hy b, show x % 2147483648 = 2139095040 by omega]
      generalize decide (2147483648 ≤ x) = s
      generalize decide (2147483648 ≤ y) = t
      cases s <;> cases t <;> simp only [Datum.order, sg, cmp_def, if_true, Bool.false_eq_true, if_false, Option.some.injEq] <;> (repeat' split) <;> first | rfl | omega
    · rw [read_inf x hx (by omega), read_inf y hy (by omega), show x % 2147483648 = 2139095040 by omega, show y % 2147483648 = 2139095040 by omega]
      generalize decide (2147483648 ≤ x) = s
      generalize decide (2147483648 ≤ y) = t
      cases s <;> cases t <;> rfl
end Go.Proofs.Ytbmphjnaefliaaa.Math
