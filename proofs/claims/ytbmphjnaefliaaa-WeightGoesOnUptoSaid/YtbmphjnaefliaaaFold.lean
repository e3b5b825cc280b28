/- This text proves that the program's Fold, and the reference's, add a list of words from the left, as walks. -/
import Derived.Test.YtbmphjnaefliaaaLawC
namespace Go.Proofs.Ytbmphjnaefliaaa.Fold
open Go.RowKit Go.Proofs.YtbmphjnaefliaaaW.PrintWords
open Go.Proofs.Ytbmphjnaefliaaa Go.Proofs.Ytbmphjnaefliaaa.Flt Go.Proofs.Ytbmphjnaefliaaa.Awk Go.Proofs.Ytbmphjnaefliaaa.LawB
set_option linter.unusedVariables false

/-- floats in cells -/
def fk : Kd Nat := Kd.scalar (Value.float .f32) (fun _ => rfl)
/-- all sums from the left -/
def foldW (l : List Nat) : Nat := l.foldl Math.addW 0
theorem foldW_snoc (l : List Nat) (x : Nat) : foldW (l ++ [x]) = Math.addW (foldW l) x := by simp [foldW]
theorem foldW_take (l : List Nat) (k : Nat) (h : k < l.length) : foldW (l.take (k + 1)) = Math.addW (foldW (l.take k)) l[k] := by
  rw [List.take_succ_eq_append_getElem h, foldW_snoc]
theorem foldl_lt (l : List Nat) : ∀ i : Nat, i < 4294967296 → l.foldl Math.addW i < 4294967296 := by
  induction l with
  | nil => intro i hi; exact hi
  | cons x r ih => intro i hi; exact ih _ (addW_lt _ _)
theorem foldW_lt (l : List Nat) : foldW l < 4294967296 := foldl_lt l 0 (by omega)

theorem fold_calls (A : Option Addr) (c : Nat) (l : List Nat) (w : World) (hr : fk.C w A l.length l) (hl : ∀ x ∈ l, x < 4294967296) :
    Calls Try.prog 22 #[.slice A l.length c] w fun e w' => e = .returned (.float .f32 (foldW l)) ∧ w = w' := by
  have hlen := hr.2.1
  have HR := Aside0.mk hr
  have HL := Aside0.mk hl
  clear hr hl
  go_enter Try.func22, Try.ntmps22
  go_wp2
  go_loop [3, 8] (fun v i => ∃ k : Nat, k ≤ l.length ∧ i = .int .i64 k ∧ v = .float .f32 (foldW (l.take k))) (fun _ i => l.length - (intOf i).toNat)
  case atStart => exact ⟨0, by omega, rfl, rfl⟩
  case round =>
    obtain ⟨k, hk, rfl, rfl⟩ := hrel
    by_cases hlt : k < l.length
    · obtain ⟨ad, rfl, hc⟩ := (Kd.reads_of_C (enc := Value.float .f32) (d := (0 : Nat)) (h1 := fun _ => rfl) HR.out).at_ (k : Int) (by omega) (by omega)
      rw [show rdOf (0 : Nat) l k = l[k] from by simp [rdOf, hlt], Int.toNat_natCast] at hc
      have hx := HL.out l[k] (List.getElem_mem _)
      have HT := Aside0.mk (foldW_take l k hlt)
      have hv := foldW_lt (l.take k)
      generalize foldW (l.take k) = v at *
      generalize l[k] = x at *
      go_wp2_with (go_at_call 18; refine (Flt.add_calls v x hv hx _).mono ?_; rintro e w' ⟨rfl, rfl⟩)
      go_round
      case rel => exact ⟨k + 1, by omega, by go_num, by rw [HT.out]⟩
      case measure => simp [intOf]; omega
    · obtain rfl : k = l.length := by omega
      go_wp2
      go_ret
      exact ⟨by simp, rfl⟩
end Go.Proofs.Ytbmphjnaefliaaa.Fold
