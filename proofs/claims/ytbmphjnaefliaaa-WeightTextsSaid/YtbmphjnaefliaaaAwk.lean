/- This text proves what Admit and Is answer of any word, and that the law's fixed example is true, as walks. -/
import Derived.Test.YtbmphjnaefliaaaTxt
namespace Go.Proofs.Ytbmphjnaefliaaa.Awk
open Go.RowKit Go.Proofs.YtbmphjnaefliaaaW.PrintWords
open Go.Proofs.Ytbmphjnaefliaaa Go.Proofs.Ytbmphjnaefliaaa.Flt Go.Proofs.Ytbmphjnaefliaaa.Txt
set_option linter.unusedVariables false

/-- Admit's word and code -/
def admW (n : Nat) : Nat := if n = 2147483648 ∨ 2139095040 ≤ n then 0 else n
def admC (n : Nat) : Int := if n = 2147483648 then 0 else if 2139095040 ≤ n then 7 else 0

theorem admit_calls (n : Nat) (hn : n < 4294967296) (w : World) : Calls Try.prog 11 #[.int .u32 n] w fun e w' => e = .returned (.tuple #[.float .f32 (admW n), .int .i64 (admC n)]) ∧ w = w' := by
  have h := run30
  have h2 := run24
  have he := ord0_eq n hn
  by_cases h0 : n = 0 ∨ n = 2147483648
  · have hc : admW n = 0 := by unfold admW; rcases h0 with rfl | rfl <;> rfl
    have hd : admC n = 0 := by unfold admC; rcases h0 with rfl | rfl <;> rfl
    rw [show decide (n = 0 ∨ n = 2147483648) = true from by simpa using h0] at he
    rw [hc, hd]
    clear hc hd h0
    go_enter Try.func11, Try.ntmps11
    go_wp2
    go_ret2
    exact ⟨rfl, rfl⟩
  · rw [show decide (n = 0 ∨ n = 2147483648) = false from by simpa using h0] at he
    by_cases h1 : n < 2139095040
    · have hc : admW n = n := by unfold admW; rw [if_neg (by omega)]
      have hd : admC n = 0 := by unfold admC; rw [if_neg (by omega), if_neg (by omega)]
      rw [hc, hd]
      clear hc hd h0
      have hq : ((n : Int) == 2139095040) = false := by simp; omega
      go_enter Try.func11, Try.ntmps11
      go_wp2
      go_ret2
      exact ⟨rfl, rfl⟩
    · have hc : admW n = 0 := by unfold admW; rw [if_pos (by omega)]
      have hd : admC n = 7 := by unfold admC; rw [if_neg (by omega), if_pos (by omega)]
      rw [hc, hd]
      clear hc hd h0
      by_cases h3 : n = 2139095040
      · subst h3
        go_enter Try.func11, Try.ntmps11
        go_wp2
        go_ret2
        exact ⟨rfl, rfl⟩
      · go_enter Try.func11, Try.ntmps11
        go_wp2
        go_ret2
        exact ⟨rfl, rfl⟩

theorem is_calls (x : Nat) (hx : x < 4294967296) (b : Int) (w : World) : Calls Try.prog 13 #[.float .f32 x, .int .u32 b] w fun e w' => e = .returned (.bool (decide ((bitsW x : Int) = b ∧ (x : Int) = b))) ∧ w = w' := by
  have h := run24
  by_cases h1 : (bitsW x : Int) = b
  · have hb1 : ((bitsW x : Int) == b) = true := by simpa using h1
    have hd : decide ((bitsW x : Int) = b ∧ (x : Int) = b) = ((x : Int) == b) := by rw [Bool.eq_iff_iff]; simp [h1]
    rw [hd]
    have HH := Aside0.mk h1
    clear h1 hd
    go_enter Try.func13, Try.ntmps13
    go_wp2_with (first | (go_at_call 16; refine (bits_calls x hx _).mono ?_; rintro e w' ⟨rfl, rfl⟩))
    go_ret
    exact ⟨rfl, rfl⟩
  · have hb1 : ((bitsW x : Int) == b) = false := by simpa using h1
    have hd : decide ((bitsW x : Int) = b ∧ (x : Int) = b) = false := by simp [h1]
    rw [hd]
    have HH := Aside0.mk h1
    clear h1 hd
    go_enter Try.func13, Try.ntmps13
    go_wp2_with (first | (go_at_call 16; refine (bits_calls x hx _).mono ?_; rintro e w' ⟨rfl, rfl⟩))
    go_ret
    exact ⟨rfl, rfl⟩

theorem is_yes (x : Nat) (hx : x < 4294967296) (hb : bitsW x = x) (w : World) : Calls Try.prog 13 #[.float .f32 x, .int .u32 (x : Int)] w fun e w' => e = .returned (.bool true) ∧ w = w' := by
  have h := is_calls x hx (x : Int) w
  rw [hb] at h
  simpa using h

theorem awake_calls (w : World) : Calls Try.prog 10 #[] w fun e w' => e = .returned (.bool true) ∧ Below w.heap.size w w' := by
  have e1 : (FloatKind.f32.format.order 1065353216 1065353216 == some .eq) = true := by decide +kernel
  have e2 : (FloatKind.f32.format.order 1077936128 1077936128 == some .eq) = true := by decide +kernel
  have e3 : Math.addW 1065353216 1073741824 = 1077936128 := by decide +kernel
  have e4 : bitsW 1065353216 = 1065353216 := by decide +kernel
  have e5 : bitsW 1069547520 = 1069547520 := by decide +kernel
  have e6 : ((strOfNums (textL 1069547520)).toList == [51, 102, 99, 48, 48, 48, 48, 48]) = true := by decide +kernel
  have e7 : admW 1065353216 = 1065353216 := by decide +kernel
  have e8 : admC 1065353216 = 0 := by decide +kernel
  go_enter Try.func10, Try.ntmps10
  go_wp2_with (first
    | (go_at_call 11; refine (admit_calls 1065353216 (by omega) _).mono ?_; rw [e7, e8]; rintro e w' ⟨rfl, rfl⟩)
    | (go_at_call 18; refine (add_calls 1065353216 1073741824 (by omega) (by omega) _).mono ?_; rw [e3]; rintro e w' ⟨rfl, rfl⟩)
    | (go_at_call 16; refine (bits_calls 1065353216 (by omega) _).mono ?_; rw [e4]; rintro e w' ⟨rfl, rfl⟩)
    | (go_at_call 26; refine (text_calls 1069547520 (by omega) _).mono ?_; rw [e5]; rintro e w1 ⟨rfl, hb⟩; have HB := Aside0.mk hb; clear hb))
  go_ret
  exact ⟨rfl, HB.out⟩
end Go.Proofs.Ytbmphjnaefliaaa.Awk
