/- This text proves the laws WeightAdmits and WeightOrder as walks: true whatever the words. -/
import Derived.Test.YtbmphjnaefliaaaAwk
import Derived.Test.YtbmphjnaefliaaaPWeightTextsx
import Derived.Test.YtbmphjnaefliaaaPWeightOrderx
namespace Go.Proofs.Ytbmphjnaefliaaa.LawA
open Go.RowKit Go.Proofs.YtbmphjnaefliaaaW.PrintWords
open Go.Proofs.Ytbmphjnaefliaaa Go.Proofs.Ytbmphjnaefliaaa.Flt Go.Proofs.Ytbmphjnaefliaaa.Txt Go.Proofs.Ytbmphjnaefliaaa.Awk
set_option linter.unusedVariables false

theorem nan_tmod (n : Nat) : decide ((n : Int).tmod 2147483648 > 2139095040) = Math.nan n := by
  unfold Math.nan
  rw [Int.tmod_eq_emod_of_nonneg (by omega)]
  by_cases h : 2139095040 < n % 2147483648
  · simp [h]; omega
  · simp [h]; omega

theorem rbits (n : Nat) : PWeightTexts.brambleref01_Bits.f n = some ((bitsW n : Nat) : Int) := by
  unfold PWeightTexts.brambleref01_Bits.f PWeightTexts.brambleref01_Nan.f bitsW
  rw [nan_tmod]
  simp only [Option.bind_some]
  split <;> rfl

theorem radmit (n : Nat) : PWeightTexts.brambleref01_Admit.f n = some (((admW n : Nat) : Int), admC n) := by
  unfold PWeightTexts.brambleref01_Admit.f admW admC
  by_cases h1 : n = 2147483648
  · subst h1; rfl
  · rw [if_neg (show ¬ (n : Int) = 2147483648 by omega), if_neg h1]
    by_cases h2 : 2139095040 ≤ n
    · rw [if_pos (show (n : Int) ≥ 2139095040 by omega), if_pos (show n = 2147483648 ∨ _ from .inr h2), if_pos h2]; rfl
    · rw [if_neg (show ¬ (n : Int) ≥ 2139095040 by omega), if_neg (show ¬ (n = 2147483648 ∨ 2139095040 ≤ n) by omega), if_neg h2]

theorem bitsW_adm (n : Nat) (hn : n < 4294967296) : bitsW (admW n) = admW n ∧ admW n < 4294967296 := by
  unfold bitsW admW Math.nan
  split
  · exact ⟨rfl, by omega⟩
  · exact ⟨by rw [if_neg (by simp; omega)], by omega⟩

theorem admits_calls (n : Nat) (hn : n < 4294967296) (w : World) : Calls Try.prog 3 #[.int .u32 n] w fun e w' => e = .returned (.bool true) ∧ Below w.heap.size w w' := by
  have h1 := radmit n
  have h2 := rbits n
  obtain ⟨h3, h4⟩ := bitsW_adm n hn
  have HI := Aside0.mk h3
  have H1 := Aside0.mk h1
  have H2 := Aside0.mk h2
  clear h1 h2 h3
  have hq1 : (admC n != admC n) = false := by simp
  go_enter Try.func3, Try.ntmps3
  go_wp2_with (first
    | (go_at_call 10; refine (awake_calls _).mono ?_; rintro e w1 ⟨rfl, hb1⟩; have HB1 := Aside0.mk hb1; clear hb1)
    | (go_at_call 11; refine (admit_calls n hn _).mono ?_; rintro e w' ⟨rfl, rfl⟩)
    | (go_at_call 12; refine (PWeightTexts.brambleref01_Admit.calls n _ _ w1 H1.out).mono ?_; rintro e w2 ⟨rfl, hd⟩; have HB2 := Aside0.mk (below_step HB1.out hd.below); clear hd)
    | (go_at_call 13; refine (is_yes (admW n) h4 HI.out _).mono ?_; rintro e w' ⟨rfl, rfl⟩)
    | (go_at_call 14; refine (float_calls n _).mono ?_; rintro e w' ⟨rfl, rfl⟩)
    | (go_at_call 15; refine (cost_calls n _).mono ?_; rintro e w' ⟨rfl, rfl⟩)
    | (go_at_call 16; refine (bits_calls n hn _).mono ?_; rintro e w' ⟨rfl, rfl⟩)
    | (go_at_call 17; refine (PWeightTexts.brambleref01_Bits.calls n _ w2 H2.out).mono ?_; rintro e w3 ⟨rfl, hd⟩; have HB3 := Aside0.mk (below_step HB2.out hd.below); clear hd))
  go_ret
  exact ⟨by first | rfl | (simp; done), HB3.out⟩
end Go.Proofs.Ytbmphjnaefliaaa.LawA
