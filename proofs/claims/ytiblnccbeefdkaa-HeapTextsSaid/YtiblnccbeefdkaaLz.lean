/- This text states HeapTexts's walk as the row wants it. -/
import Derived.Test.YtiblnccbeefdkaaLy
namespace Go.Proofs.Ytiblnccbeefdkaa.Lx
open Go.RowKit Go.Proofs.Ytiblnccbeefdkaa.Mp
theorem law_row (A : Option Addr) (len cap : Nat) (Sx : Nat → ByteArray) (w : World) (hl : len ≤ cap) (hm : cap ≤ maxLen) (hS : ∀ i, i < len → ∃ a, A = some a ∧ w.cell? (a.add i) = some (.string (Sx i))) :
    Calls Try.prog 7 #[.slice A len cap] w fun e w' => e = .returned (.bool true) ∧ Below w.heap.size w w' :=
  (texts_calls A len cap Sx w hl hm hS).mono fun _ _ h => ⟨h.1, h.2.to_below⟩
end Go.Proofs.Ytiblnccbeefdkaa.Lx
