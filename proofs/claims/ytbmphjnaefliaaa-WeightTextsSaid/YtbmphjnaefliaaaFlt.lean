/- This text proves what the program's functions on floats answer (Cost, Bits, counts, Add, Before, Admit and the law's own Is, Float), of any words, as walks. -/
import Derived.Test.YtbmphjnaefliaaaProg
import Derived.Test.YtbmphjnaefliaaaMath2
import Derived.WalkKit
import Derived.KernelRfl
import Derived.WalkLawsBesides
namespace Go.Proofs.Ytbmphjnaefliaaa.Flt
open Go.RowKit
open Go.Proofs.Ytbmphjnaefliaaa
set_option linter.unusedVariables false

theorem run30 (n : Int) (w : World) : (callFunc 30 #[.int .u32 n]).run Try.prog w = .ok (.value (.float .f32 n.toNat)) w := by kernel_rfl
theorem run24 (x : Nat) (w : World) : (callFunc 24 #[.float .f32 x]).run Try.prog w = .ok (.value (.int .u32 x)) w := by kernel_rfl
theorem run36 (n : Int) (w : World) : (callFunc 36 #[.int .u64 n]).run Try.prog w = .ok (.value (.float .f64 n.toNat)) w := by kernel_rfl

theorem float_calls (n : Int) (w : World) : Calls Try.prog 14 #[.int .u32 n] w fun e w' => e = .returned (.float .f32 n.toNat) ∧ w = w' := by
  have h := run30
  go_enter Try.func14, Try.ntmps14
  go_wp2
  go_ret
  exact ⟨rfl, rfl⟩

theorem cost_calls (x : Nat) (w : World) : Calls Try.prog 15 #[.float .f32 x] w fun e w' => e = .returned (.bool (decide ((x : Int) ≤ 2139095040))) ∧ w = w' := by
  have h := run24
  go_enter Try.func15, Try.ntmps15
  go_wp2
  go_ret
  exact ⟨rfl, rfl⟩

def bitsW (x : Nat) : Nat := if Math.nan x = true then 2143289344 else x

theorem cmp_refl (a : Int) : compare a a = .eq := by rw [Math.cmp_def, if_neg (by omega), if_pos rfl]

theorem bits_calls (x : Nat) (hx : x < 4294967296) (w : World) : Calls Try.prog 16 #[.float .f32 x] w fun e w' => e = .returned (.int .u32 (bitsW x)) ∧ w = w' := by
  have h := run24
  by_cases hn : Math.nan x = true
  · have hb : bitsW x = 2143289344 := by simp [bitsW, hn]
    have ho : (FloatKind.f32.format.order x x != some .eq) = true := by
      rw [show FloatKind.f32.format.order x x = none from Math.order_nan x x hx hx (.inl hn)]; rfl
    rw [hb]
    clear hb hn
    go_enter Try.func16, Try.ntmps16
    go_wp2
    go_ret
    exact ⟨rfl, rfl⟩
  · have hb : bitsW x = x := by simp [bitsW, hn]
    have ho : (FloatKind.f32.format.order x x != some .eq) = false := by
      rw [show FloatKind.f32.format.order x x = some .eq from by rw [show FloatKind.f32.format.order x x = _ from Math.order_eq x x hx hx (by simpa using hn) (by simpa using hn), cmp_refl]]; rfl
    rw [hb]
    clear hb hn
    go_enter Try.func16, Try.ntmps16
    go_wp2
    go_ret
    exact ⟨rfl, rfl⟩

theorem nan0 : Math.nan 0 = false := by decide
theorem place0 : Math.place 0 = 0 := by decide
theorem ord0 (x : Nat) (hx : x < 4294967296) : FloatKind.f32.format.order x 0 = if Math.nan x = true then none else some (compare (Math.place x) 0) := by
  split
  · rename_i h
    exact Math.order_nan x 0 hx (by omega) (.inl h)
  · rename_i h
    rw [show FloatKind.f32.format.order x 0 = _ from Math.order_eq x 0 hx (by omega) (by simpa using h) nan0, place0]

theorem cmp_eq_iff (a b : Int) : compare a b = .eq ↔ a = b := by
  rw [Math.cmp_def]
  by_cases h1 : a < b
  · rw [if_pos h1]; constructor
    · intro h; cases h
    · intro h; omega
  · rw [if_neg h1]
    by_cases h2 : a = b
    · rw [if_pos h2]; exact ⟨fun _ => h2, fun _ => rfl⟩
    · rw [if_neg h2]; constructor
      · intro h; cases h
      · intro h; omega
theorem cmp_gt_iff (a b : Int) : compare a b = .gt ↔ b < a := by
  rw [Math.cmp_def]
  by_cases h1 : a < b
  · rw [if_pos h1]; constructor
    · intro h; cases h
    · intro h; omega
  · rw [if_neg h1]
    by_cases h2 : a = b
    · rw [if_pos h2]; constructor
      · intro h; cases h
      · intro h; omega
    · rw [if_neg h2]; exact ⟨fun _ => by omega, fun _ => rfl⟩
theorem cmp_lt_iff (a b : Int) : compare a b = .lt ↔ a < b := by
  rw [Math.cmp_def]
  by_cases h1 : a < b
  · rw [if_pos h1]; exact ⟨fun _ => h1, fun _ => rfl⟩
  · rw [if_neg h1]
    by_cases h2 : a = b
    · rw [if_pos h2]; constructor
      · intro h; cases h
      · intro h; omega
    · rw [if_neg h2]; constructor
      · intro h; cases h
      · intro h; omega

theorem ord0_eq (x : Nat) (hx : x < 4294967296) : (FloatKind.f32.format.order x 0 == some .eq) = decide (x = 0 ∨ x = 2147483648) := by
  rw [ord0 x hx, Bool.eq_iff_iff, beq_iff_eq, decide_eq_true_eq]
  by_cases hn : Math.nan x = true
  · rw [if_pos hn]
    simp only [Math.nan, decide_eq_true_eq] at hn
    constructor
    · intro h; cases h
    · intro h; omega
  · rw [if_neg hn, Option.some.injEq, cmp_eq_iff]
    unfold Math.place
    split <;> omega

theorem ord0_gt (x : Nat) (hx : x < 4294967296) : (FloatKind.f32.format.order x 0 == some .gt) = decide (0 < x ∧ x ≤ 2139095040) := by
  rw [ord0 x hx, Bool.eq_iff_iff, beq_iff_eq, decide_eq_true_eq]
  by_cases hn : Math.nan x = true
  · rw [if_pos hn]
    simp only [Math.nan, decide_eq_true_eq] at hn
    constructor
    · intro h; cases h
    · intro h; omega
  · rw [if_neg hn, Option.some.injEq, cmp_gt_iff]
    simp only [Math.nan, decide_eq_true_eq] at hn
    unfold Math.place
    split <;> omega

theorem conv_inf (w : World) : (convert 58 24 (.float .f64 9218868437227405312)).run Try.prog w = .ok (.float .f32 2139095040) w := by kernel_rfl

theorem counts_calls (x : Nat) (hx : x < 4294967296) (w : World) : Calls Try.prog 31 #[.float .f32 x] w fun e w' => e = .returned (.float .f32 (Math.cnt x)) ∧ w = w' := by
  have h := run36
  have hi := conv_inf
  have he := ord0_eq x hx
  have hg := ord0_gt x hx
  by_cases h0 : x = 0 ∨ x = 2147483648
  · have hc : Math.cnt x = 0 := by unfold Math.cnt; rcases h0 with rfl | rfl <;> rfl
    rw [show decide (x = 0 ∨ x = 2147483648) = true from by simpa using h0] at he
    rw [hc]
    clear hc hg h0
    go_enter Try.func31, Try.ntmps31
    go_wp2
    go_ret
    exact ⟨rfl, rfl⟩
  · rw [show decide (x = 0 ∨ x = 2147483648) = false from by simpa using h0] at he
    by_cases h1 : x ≤ 2139095040
    · have hc : Math.cnt x = x := Math.cnt_id h1
      rw [show decide (0 < x ∧ x ≤ 2139095040) = true from by simp; omega] at hg
      rw [hc]
      clear hc h0 h1
      go_enter Try.func31, Try.ntmps31
      go_wp2
      go_ret
      exact ⟨rfl, rfl⟩
    · have hc : Math.cnt x = 2139095040 := by unfold Math.cnt; rw [if_neg (by omega), if_pos (by omega)]
      rw [show decide (0 < x ∧ x ≤ 2139095040) = false from by simp; omega] at hg
      rw [hc]
      clear hc h0 h1
      go_enter Try.func31, Try.ntmps31
      go_wp2
      go_ret
      exact ⟨rfl, rfl⟩

theorem cnt_lt (x : Nat) : Math.cnt x < 4294967296 := by have := Math.cnt_le x; omega

theorem run_add (x y : Nat) (w : World) : (binOp .add 24 (.float .f32 (Math.cnt x)) (.float .f32 (Math.cnt y))).run Try.prog w = .ok (.float .f32 (Math.addW x y)) w := by
  have h : FloatKind.f32.format.add (Math.cnt x) (Math.cnt y) = some (Math.addW x y) := Math.add_cnt x y
  simp [binOp, Op.floatArith, h]

theorem add_calls (x y : Nat) (hx : x < 4294967296) (hy : y < 4294967296) (w : World) : Calls Try.prog 18 #[.float .f32 x, .float .f32 y] w fun e w' => e = .returned (.float .f32 (Math.addW x y)) ∧ w = w' := by
  have h := run_add x y
  go_enter Try.func18, Try.ntmps18
  go_wp2_with fail
  refine (counts_calls x hx _).mono ?_
  rintro e w' ⟨rfl, rfl⟩
  go_wp2_with fail
  refine (counts_calls y hy _).mono ?_
  rintro e w' ⟨rfl, rfl⟩
  go_wp2_with fail
  go_ret
  exact ⟨rfl, rfl⟩

theorem before_calls (x y : Nat) (w : World) : Calls Try.prog 20 #[.float .f32 x, .float .f32 y] w fun e w' => e = .returned (.bool (FloatKind.f32.format.order x y == some .lt)) ∧ w = w' := by
  go_enter Try.func20, Try.ntmps20
  go_wp2
  go_ret
  exact ⟨rfl, rfl⟩
end Go.Proofs.Ytbmphjnaefliaaa.Flt
