/- This text proves what the reference's Read and Text answer of any text and any word. -/
import Derived.Test.YtbmphjnaefliaaaRd
namespace Go.Proofs.Ytbmphjnaefliaaa.Rd
open Go.RowKit Go.Proofs.YtbmphjnaefliaaaW.PrintWords
open Go.Proofs.Ytbmphjnaefliaaa Go.Proofs.Ytbmphjnaefliaaa.Flt Go.Proofs.Ytbmphjnaefliaaa.Awk Go.Proofs.Ytbmphjnaefliaaa.LawB Go.Proofs.Ytbmphjnaefliaaa.LawA Go.Proofs.Ytbmphjnaefliaaa.Txt
set_option linter.unusedVariables false

theorem w64 {n : Int} (h0 : 0 ≤ n) (h1 : n < 9223372036854775808) : wrap64 n = n := by unfold wrap64; omega
theorem bt_lt (s : ByteArray) (k : Int) : 0 ≤ bt s k ∧ bt s k < 256 := by
  unfold bt
  split
  · rename_i h
    have := s[k.toNat].toNat_lt
    omega
  · omega
/-- the answer behind the letters -/
def ends : Option Nat → Int × Int
  | none => (0, 10)
  | some b => (admW b, admC b)
theorem rl0 (s : ByteArray) (hs : s.size = 8) : ∀ n k acc : Nat, n + k = 8 → acc < 16 ^ k → PWeightTexts.brambleref01_Read.l0 (2 * n + 1) s acc k = some (ends (rdS s n k acc))
  | 0, k, acc, hk, ha => by
    obtain rfl : k = 8 := by omega
    have h2 : acc < 4294967296 := ha
    have h3 := radmit acc
    simp only [PWeightTexts.brambleref01_Read.l0, rdS]
    rw [if_neg (by omega), Int.emod_eq_of_lt (by omega) (by omega), h3]
    rfl
  | n + 1, k, acc, hk, ha => by
    have hb := bt_lt s (k : Int)
    have h1 : acc < 268435456 := by
      have h2 : 16 ^ k ≤ 16 ^ 7 := Nat.pow_le_pow_right (by omega) (by omega)
      have h3 : (16 : Nat) ^ 7 = 268435456 := by decide
      omega
    have e1 : ∀ d, d < 16 → acc * 16 + d < 16 ^ (k + 1) := fun d hd => by rw [Nat.pow_succ]; omega
    have ek : wrap64 ((k : Int) + 1) = ((k + 1 : Nat) : Int) := by rw [w64 (by omega) (by omega)]; omega
    rw [show 2 * (n + 1) + 1 = (2 * n + 1) + 1 + 1 by omega]
    simp only [PWeightTexts.brambleref01_Read.l0, rdS]
    generalize bt s (k : Int) = c at *
    have ec : wrap64 c = c := w64 (by omega) (by omega)
    rw [if_pos (by omega), if_pos (by omega), if_pos (by omega), ec]
    by_cases h2 : 48 ≤ c ∧ c ≤ 57
    · have hh : hx c = some (c - 48).toNat := by unfold hx; rw [if_pos h2]
      rw [if_pos h2.1, hh]
      simp only [PWeightTexts.brambleref01_Read.j1]
      rw [if_pos (by simp; omega), ek, show wrap64 (wrap64 (wrap64 (16 * (acc : Int)) + c) - 48) = ((acc * 16 + (c - 48).toNat : Nat) : Int) by rw [w64 (n := 16 * (acc : Int)) (by omega) (by omega), w64 (n := 16 * (acc : Int) + c) (by omega) (by omega), w64 (by omega) (by omega)]; omega]
      exact rl0 s hs n (k + 1) _ (by omega) (e1 _ (by omega))
    · by_cases h3 : 97 ≤ c ∧ c ≤ 102
      · have hh : hx c = some (c - 87).toNat := by unfold hx; rw [if_neg h2, if_pos h3]
        rw [if_pos (by omega), hh]
        simp only [PWeightTexts.brambleref01_Read.j1]
        rw [if_neg (by simp; omega), if_pos h3.1, if_pos h3.2, ek, show wrap64 (wrap64 (wrap64 (wrap64 (16 * (acc : Int)) + c) - 97) + 10) = ((acc * 16 + (c - 87).toNat : Nat) : Int) by rw [w64 (n := 16 * (acc : Int)) (by omega) (by omega), w64 (n := 16 * (acc : Int) + c) (by omega) (by omega), w64 (n := 16 * (acc : Int) + c - 97) (by omega) (by omega), w64 (by omega) (by omega)]; omega]
        exact rl0 s hs n (k + 1) _ (by omega) (e1 _ (by omega))
      · have hh : hx c = none := by unfold hx; rw [if_neg h2, if_neg h3]
        rw [hh]
        have key : ∀ b : Bool, (b = true → c ≤ 57 ∧ 48 ≤ c) → PWeightTexts.brambleref01_Read.j1 (2 * n + 1 + 1) s acc k c b = some (0, 10) := by
          intro b hb2
          simp only [PWeightTexts.brambleref01_Read.j1]
          rw [if_neg (by intro h; have := hb2 h; omega)]
          split
          · rw [if_neg (by omega)]
          · rfl
        split
        · exact key _ (by simp; omega)
        · exact key _ (by simp)
theorem rread (s : ByteArray) : PWeightTexts.brambleref01_Read.f 17 s = some (((readW s).1 : Int), (readW s).2) := by
  unfold PWeightTexts.brambleref01_Read.f readW
  by_cases hs : s.size = 8
  · rw [if_pos (by omega), if_pos hs]
    have := rl0 s hs 8 0 0 (by omega) (by simp)
    refine (show _ = _ from this).trans ?_
    cases rdS s 8 0 0 <;> rfl
  · rw [if_neg (by omega), if_neg hs]
    rfl
end Go.Proofs.Ytbmphjnaefliaaa.Rd
