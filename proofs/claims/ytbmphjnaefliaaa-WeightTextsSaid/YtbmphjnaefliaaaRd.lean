/- This text proves what Read answers of any text, of the program and of the reference. -/
import Derived.Test.YtbmphjnaefliaaaLawB
import Derived.Deep.DeepMust
namespace Go.Proofs.Ytbmphjnaefliaaa.Rd
open Go.RowKit Go.Proofs.YtbmphjnaefliaaaW.PrintWords
open Go.Proofs.Ytbmphjnaefliaaa Go.Proofs.Ytbmphjnaefliaaa.Flt Go.Proofs.Ytbmphjnaefliaaa.Awk Go.Proofs.Ytbmphjnaefliaaa.LawB Go.Proofs.Ytbmphjnaefliaaa.LawA
set_option linter.unusedVariables false

/-- what a letter is worth -/
def hx (c : Int) : Option Nat := if 48 ≤ c ∧ c ≤ 57 then some (c - 48).toNat else if 97 ≤ c ∧ c ≤ 102 then some (c - 87).toNat else none
theorem hx_lt {c : Int} {d : Nat} (h : hx c = some d) : d < 16 := by
  unfold hx at h
  split at h
  · have := Option.some.inj h; omega
  · split at h
    · have := Option.some.inj h; omega
    · cases h
/-- the number that n letters write, the k-th letter first, behind a number -/
def rdS (s : ByteArray) : Nat → Nat → Nat → Option Nat
  | 0, _, acc => some acc
  | n + 1, k, acc => match hx (bt s k) with
    | none => none
    | some d => rdS s n (k + 1) (acc * 16 + d)
theorem or_u32 (acc d : Nat) (e : Int) (ha : acc < 268435456) (hd : d < 16) (he : e = (d : Int)) : Go.bits .or .u32 ((acc : Int) * 16) e = ((acc * 16 + d : Nat) : Int) := by
  subst he
  have h := u32_or_nat (acc * 16) d (by omega) (by omega)
  rw [show ((acc * 16 : Nat) : Int) = (acc : Int) * 16 by omega] at h
  rw [h, Nat.mul_comm acc 16, show 16 * acc = 2 ^ 4 * acc from rfl, Nat.two_pow_add_eq_or_of_lt (by omega : d < 2 ^ 4)]
/-- what Read answers -/
def readW (s : ByteArray) : Nat × Int := if s.size = 8 then match rdS s 8 0 0 with
    | none => (0, 10)
    | some b => (admW b, admC b)
  else (0, 10)
theorem rdS_lt (s : ByteArray) : ∀ n k acc b, rdS s n k acc = some b → acc < 16 ^ k → b < 16 ^ (k + n)
  | 0, k, acc, b, h, ha => by
    obtain rfl := Option.some.inj h
    exact ha
  | n + 1, k, acc, b, h, ha => by
    unfold rdS at h
    split at h
    · cases h
    · rename_i d hd
      have := rdS_lt s n (k + 1) _ b h (by have := hx_lt hd; rw [Nat.pow_succ]; omega)
      rwa [Nat.add_right_comm] at this

theorem read_calls (s : ByteArray) (w : World) : Calls Try.prog 28 #[.string s] w fun e w' => e = .returned (.tuple #[.float .f32 (readW s).1, .int .i64 (readW s).2]) ∧ w = w' := by
  by_cases hs : s.size = 8
  · have HR := Aside0.mk (show readW s = match rdS s 8 0 0 with | none => (0, 10) | some b => (admW b, admC b) by unfold readW; rw [if_pos hs])
    go_enter Try.func28, Try.ntmps28
    go_wp2
    go_loop [4, 12] (fun b i => ∃ k acc : Nat, k ≤ 8 ∧ b = .int .u32 acc ∧ i = .int .i64 k ∧ Aside0 (acc < 16 ^ k) ∧ Aside0 (rdS s (8 - k) k acc = rdS s 8 0 0)) (fun _ i => 8 - (intOf i).toNat)
    case atStart => exact ⟨0, 0, by omega, rfl, rfl, ⟨by simp⟩, ⟨rfl⟩⟩
    case round =>
      obtain ⟨k, acc, hk, rfl, rfl, HA, HE⟩ := hrel
      by_cases hlt : k < 8
      · have hsz : k < s.size := by omega
        have ha : acc < 268435456 := by
          have h1 := HA.out
          have h2 : 16 ^ k ≤ 16 ^ 7 := Nat.pow_le_pow_right (by omega) (by omega)
          have h3 : (16 : Nat) ^ 7 = 268435456 := by decide
          omega
        have hE := HE.out
        rw [show 8 - k = (8 - (k + 1)) + 1 by omega, rdS] at hE
        obtain ⟨c, hc⟩ : ∃ c : Nat, s[k].toNat = c := ⟨_, rfl⟩
        have hcb : bt s (k : Int) = (c : Int) := by
          have := bt_at s (k : Int) (by simp; omega)
          rw [← this, ← hc]; rfl
        have hc8 : c < 256 := by rw [← hc]; exact s[k].toNat_lt
        rw [hcb] at hE
        clear HE hcb
        have HA2 : ∀ d, d < 16 → Aside0 (acc * 16 + d < 16 ^ (k + 1)) := fun d hd => ⟨by have := HA.out; rw [Nat.pow_succ]; omega⟩
        have HE2 := Aside0.mk hE
        clear hE HA
        by_cases h1 : 48 ≤ c ∧ c ≤ 57
        · have hor : Go.bits .or .u32 ((acc : Int) * 16) ((c : Int) - 48) = ((acc * 16 + (c - 48) : Nat) : Int) := or_u32 acc (c - 48) _ ha (by omega) (by omega)
          have i1 : decide (48 ≤ (c : Int)) = true := by simp; omega
          have i2 : decide ((c : Int) ≤ 57) = true := by simp; omega
          have HX : Aside0 (hx (c : Int) = some (c - 48)) := ⟨by unfold hx; rw [if_pos (by omega)]; congr 1; omega⟩
          go_wp2
          go_round
          case measure => simp [intOf]; omega
          case rel => exact ⟨k + 1, acc * 16 + (c - 48), by omega, by simp, by go_num, HA2 _ (by omega), ⟨by have := HE2.out; rw [HX.out] at this; exact this⟩⟩
        · by_cases h2 : 97 ≤ c ∧ c ≤ 102
          · have hor : Go.bits .or .u32 ((acc : Int) * 16) ((c : Int) - 97 + 10) = ((acc * 16 + (c - 87) : Nat) : Int) := or_u32 acc (c - 87) _ ha (by omega) (by omega)
            have i0 : decide (48 ≤ (c : Int)) = true := by simp; omega
            have i1 : decide ((c : Int) ≤ 57) = false := by simp; omega
            have i2 : decide (97 ≤ (c : Int)) = true := by simp; omega
            have i3 : decide ((c : Int) ≤ 102) = true := by simp; omega
            have HX : Aside0 (hx (c : Int) = some (c - 87)) := ⟨by unfold hx; rw [if_neg (by omega), if_pos (by omega)]; congr 1; omega⟩
            go_wp2
            go_round
            case measure => simp [intOf]; omega
            case rel => exact ⟨k + 1, acc * 16 + (c - 87), by omega, by simp, by go_num, HA2 _ (by omega), ⟨by have := HE2.out; rw [HX.out] at this; exact this⟩⟩
          · have HX : Aside0 (readW s = (0, 10)) := ⟨by
              have hh : hx (c : Int) = none := by unfold hx; rw [if_neg (by omega), if_neg (by omega)]
              have := HE2.out
              rw [hh] at this
              rw [HR.out, ← this]⟩
            clear HE2 HA2
            go_wp2
            all_goals first
              | (exfalso; omega)
              | skip
            all_goals go_ret2
            all_goals exact ⟨by rw [HX.out]; rfl, rfl⟩
      · obtain rfl : k = 8 := by omega
        have ha : acc < 4294967296 := HA.out
        have HX : Aside0 (readW s = (admW acc, admC acc)) := ⟨by
          have := HE.out
          rw [HR.out, ← this]
          rfl⟩
        go_wp2_with (go_at_call 11; refine (admit_calls acc ha _).mono ?_; rintro e w' ⟨rfl, rfl⟩)
        go_ret2
        exact ⟨by rw [HX.out]; rfl, rfl⟩
  · have hr : readW s = (0, 10) := by unfold readW; rw [if_neg hs]
    rw [hr]
    go_enter Try.func28, Try.ntmps28
    go_wp2
    go_ret2
    exact ⟨rfl, rfl⟩
end Go.Proofs.Ytbmphjnaefliaaa.Rd
