/- This text says what an order may do that is handed in and counts how often it is asked. -/
import Derived.Test.YtiblnccbeefdkaaHp
namespace Go.Proofs.Ytiblnccbeefdkaa.Hp
open Go.RowKit Go.Proofs.YtiblnccbeefdkaaW.PrintWords Go.Proofs.Ytiblnccbeefdkaa.Mp
set_option linter.unusedVariables false
/-- An order that is handed in: J k says that it may be asked k times more. -/
structure LessJ (P : Program) {ρ : Type} (rv : ρ → Value) (A : ρ → ρ → Bool → Prop) (lv : Value) (J : Nat → World → Prop) (S : Nat → Prop) (base : Nat) : Prop where
  calls : ∃ F fn cap, lv = .func (.func F) #[] cap ∧ P.funcs[F]? = some fn ∧ (fn.name == "runtime.NumGoroutine") = false ∧ fn.body.isSome = true ∧
    ∀ a b w k, J (k + 1) w → base ≤ w.heap.size → Calls P F (#[rv a, rv b] ++ cap) w fun e w' => ∃ r, e = .returned (.bool r) ∧ A a b r ∧ J k w' ∧ Kp w w' S
  stable : ∀ k w w', J k w → (∀ i, i < base → w'.heap[i]? = w.heap[i]?) → J k w'
  less : ∀ k w, J (k + 1) w → J k w
  low : ∀ k, S k → k < base
theorem LessJ.le {P : Program} {ρ : Type} {rv : ρ → Value} {A : ρ → ρ → Bool → Prop} {lv : Value} {J : Nat → World → Prop} {S : Nat → Prop} {base : Nat} (L : LessJ P rv A lv J S base) {w : World} {k : Nat} : ∀ n, J (k + n) w → J k w
  | 0, h => h
  | n + 1, h => L.le n (L.less _ _ h)
end Go.Proofs.Ytiblnccbeefdkaa.Hp
