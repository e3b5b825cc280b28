/-
  No cell of these rows narrows 'for every input' (looked for: loops, veiled, ifaces, maps, wideKeys, modest, calm, conditions, laid).
  DERIVED. THE GIVEN ROWS OF THIS SEAT. 5 by the template 'for every input the law returns true; each argument reads behind the call as it read before'; 0 by the template 'total and deterministic' (their statements: YtiblnccbeefdkaaTotals.lean).
  GIVEN WITH THE SEED: the statements are not yours to turn. If you find one false, say at which input.
  Laid BY PROGRAM, IN A SANDBOX (cutbox-rows.mjs): the forced cells as the released guide's own fill.sh prints them over the translation 798946c08a31955d… (all of the seat's roots in one cut). By AI agents, Wed Nov 11 2026. No macro, syntax, notation, axiom, sorry.
-/
import Derived.Test.YtiblnccbeefdkaaChecked
import GoSem.Claim
import GoSem.ClaimJoined
import GoSem.ClaimMapViews
import Derived.JoinedTies
import Derived.KernelRfl
namespace Go.Proofs.Ytiblnccbeefdkaa
/- THE CELL 'sum', in the pinned program and in every row, IS THE sha256 OF THE DUMP (.gsa) THAT YtiblnccbeefdkaaProg.lean LOADS. Nothing in Lean hashes anything: it is a label: what it is worth is what the hold of that sum in a sandbox is worth. -/
noncomputable def Try.pinned : Pinned := { name := "ytiblnccbeefdkaa", sum := "798946c08a31955d02c0bd07c4cd60dede7ad302644ebe098278e14bfe84eef1", checked := Try.checked }
namespace Rows
def none {H : Type} : Left H := { results := [], args := [] }

/-- 'bramblelaw03.HeapSorts': WHATEVER THE INPUT: true; the input reads as it did. -/
def heapSortsSpec : ChangeSpec := { name := "heapSorts", fn := fun _ => fun
  | [d] => { results := [.lit (.bool true)], args := [d] }
  | _ => none }
def heapSortsRow : OpenClaim := { program := "ytiblnccbeefdkaa", sum := "798946c08a31955d02c0bd07c4cd60dede7ad302644ebe098278e14bfe84eef1", func := "bramble/bramblelaw03.HeapSorts", spec := "heapSorts", unfollowed := true, recurses := true, apart := false }
def HeapSortsSaid : Prop := heapSortsRow.holds Try.pinned (OpenSpec.ofChange heapSortsSpec)

/-- ITS FALSE NEIGHBOUR: 'it returns false'. Refute it at one input. -/
def heapSortsWrong : ChangeSpec := { name := "heapSorts", fn := fun _ => fun
  | [d] => { results := [.lit (.bool false)], args := [d] }
  | _ => none }
def HeapSortsWrongFalsely : Prop := heapSortsRow.holds Try.pinned (OpenSpec.ofChange heapSortsWrong)

/-- 'bramblelaw03.HeapLowers': WHATEVER THE INPUT: true; the input reads as it did. -/
def heapLowersSpec : ChangeSpec := { name := "heapLowers", fn := fun _ => fun
  | [d1, d2] => { results := [.lit (.bool true)], args := [d1, d2] }
  | _ => none }
def heapLowersRow : OpenClaim := { program := "ytiblnccbeefdkaa", sum := "798946c08a31955d02c0bd07c4cd60dede7ad302644ebe098278e14bfe84eef1", func := "bramble/bramblelaw03.HeapLowers", spec := "heapLowers", unfollowed := true, recurses := true, apart := false }
def HeapLowersSaid : Prop := heapLowersRow.holds Try.pinned (OpenSpec.ofChange heapLowersSpec)

/-- ITS FALSE NEIGHBOUR: 'it returns false'. Refute it at one input. -/
def heapLowersWrong : ChangeSpec := { name := "heapLowers", fn := fun _ => fun
  | [d1, d2] => { results := [.lit (.bool false)], args := [d1, d2] }
  | _ => none }
def HeapLowersWrongFalsely : Prop := heapLowersRow.holds Try.pinned (OpenSpec.ofChange heapLowersWrong)

/-- 'bramblelaw03.HeapWrong': WHATEVER THE INPUT: true; the input reads as it did. -/
def heapWrongSpec : ChangeSpec := { name := "heapWrong", fn := fun _ => fun
  | [d1, d2] => { results := [.lit (.bool true)], args := [d1, d2] }
  | _ => none }
def heapWrongRow : OpenClaim := { program := "ytiblnccbeefdkaa", sum := "798946c08a31955d02c0bd07c4cd60dede7ad302644ebe098278e14bfe84eef1", func := "bramble/bramblelaw03.HeapWrong", spec := "heapWrong", unfollowed := true, recurses := true, apart := false }
def HeapWrongSaid : Prop := heapWrongRow.holds Try.pinned (OpenSpec.ofChange heapWrongSpec)

/-- ITS FALSE NEIGHBOUR: 'it returns false'. Refute it at one input. -/
def heapWrongWrong : ChangeSpec := { name := "heapWrong", fn := fun _ => fun
  | [d1, d2] => { results := [.lit (.bool false)], args := [d1, d2] }
  | _ => none }
def HeapWrongWrongFalsely : Prop := heapWrongRow.holds Try.pinned (OpenSpec.ofChange heapWrongWrong)

/-- 'bramblelaw03.HeapPlays': WHATEVER THE INPUT: true; the input reads as it did. -/
def heapPlaysSpec : ChangeSpec := { name := "heapPlays", fn := fun _ => fun
  | [d] => { results := [.lit (.bool true)], args := [d] }
  | _ => none }
def heapPlaysRow : OpenClaim := { program := "ytiblnccbeefdkaa", sum := "798946c08a31955d02c0bd07c4cd60dede7ad302644ebe098278e14bfe84eef1", func := "bramble/bramblelaw03.HeapPlays", spec := "heapPlays", unfollowed := true, recurses := true, apart := false }
def HeapPlaysSaid : Prop := heapPlaysRow.holds Try.pinned (OpenSpec.ofChange heapPlaysSpec)

/-- ITS FALSE NEIGHBOUR: 'it returns false'. Refute it at one input. -/
def heapPlaysWrong : ChangeSpec := { name := "heapPlays", fn := fun _ => fun
  | [d] => { results := [.lit (.bool false)], args := [d] }
  | _ => none }
def HeapPlaysWrongFalsely : Prop := heapPlaysRow.holds Try.pinned (OpenSpec.ofChange heapPlaysWrong)

/-- 'bramblelaw03.HeapTexts': WHATEVER THE INPUT: true; the input reads as it did. -/
def heapTextsSpec : ChangeSpec := { name := "heapTexts", fn := fun _ => fun
  | [d] => { results := [.lit (.bool true)], args := [d] }
  | _ => none }
def heapTextsRow : OpenClaim := { program := "ytiblnccbeefdkaa", sum := "798946c08a31955d02c0bd07c4cd60dede7ad302644ebe098278e14bfe84eef1", func := "bramble/bramblelaw03.HeapTexts", spec := "heapTexts", unfollowed := true, recurses := true, apart := false }
def HeapTextsSaid : Prop := heapTextsRow.holds Try.pinned (OpenSpec.ofChange heapTextsSpec)

/-- ITS FALSE NEIGHBOUR: 'it returns false'. Refute it at one input. -/
def heapTextsWrong : ChangeSpec := { name := "heapTexts", fn := fun _ => fun
  | [d] => { results := [.lit (.bool false)], args := [d] }
  | _ => none }
def HeapTextsWrongFalsely : Prop := heapTextsRow.holds Try.pinned (OpenSpec.ofChange heapTextsWrong)

/- THE SECOND FORM. 'bulk': how many values and letters a reading holds, each counted each time it is reached (what is shared counts as often as it is met; a slice's spare places count too). A statement '..UptoSaid' is the law's where the arguments, and the package variables that the reading takes, are together of bulk at most 1048576: NARROWER than '..Said'. Prove '..Said' where nothing that the law and all that it calls make is longer than what came in: it says more and counts as full. Else prove '..UptoSaid'. A law counts once. -/
mutual
def uptoBulk {H : Type} : DataW H → Nat
  | .lit (.string bytes) => bytes.length + 1
  | .lit _ => 1
  | .nil => 1
  | .ptr d => uptoBulk d + 1
  | .slice elems spare => uptoBulkAll elems + uptoBulkAll spare + 1
  | .agg parts => uptoBulkAll parts + 1
  | .iface _ d => uptoBulk d + 1
  | .map entries => uptoBulkEntries entries + 1
  | .held _ => 1
def uptoBulkAll {H : Type} : List (DataW H) → Nat
  | [] => 0
  | d :: r => uptoBulk d + uptoBulkAll r
def uptoBulkEntries {H : Type} : List (Lit × DataW H) → Nat
  | [] => 0
  | x :: r => uptoBulkEntry x + uptoBulkEntries r
def uptoBulkEntry {H : Type} : Lit × DataW H → Nat
  | (.string bytes, d) => bytes.length + uptoBulk d + 1
  | (_, d) => uptoBulk d + 1
 end
def uptoSmall : (H : Type) → List (DataW H) → Bool := fun _ ds => decide (uptoBulkAll ds ≤ 1048576)
def OpenSpec.upto (s : _root_.Go.ChangeSpec) : _root_.Go.OpenSpec := { _root_.Go.OpenSpec.ofChange s with cond := some uptoSmall }

/-- 'bramblelaw03.HeapSorts', WHERE WHAT IT READS IS OF BULK AT MOST 1048576: true; the input reads as it did. -/
def heapSortsUptoRow : OpenClaim := { program := "ytiblnccbeefdkaa", sum := "798946c08a31955d02c0bd07c4cd60dede7ad302644ebe098278e14bfe84eef1", func := "bramble/bramblelaw03.HeapSorts", spec := "heapSorts", unfollowed := true, recurses := true, apart := false, narrowed := true }
def HeapSortsUptoSaid : Prop := heapSortsUptoRow.holds Try.pinned (OpenSpec.upto heapSortsSpec)

/-- 'bramblelaw03.HeapLowers', WHERE WHAT IT READS IS OF BULK AT MOST 1048576: true; the input reads as it did. -/
def heapLowersUptoRow : OpenClaim := { program := "ytiblnccbeefdkaa", sum := "798946c08a31955d02c0bd07c4cd60dede7ad302644ebe098278e14bfe84eef1", func := "bramble/bramblelaw03.HeapLowers", spec := "heapLowers", unfollowed := true, recurses := true, apart := false, narrowed := true }
def HeapLowersUptoSaid : Prop := heapLowersUptoRow.holds Try.pinned (OpenSpec.upto heapLowersSpec)

/-- 'bramblelaw03.HeapWrong', WHERE WHAT IT READS IS OF BULK AT MOST 1048576: true; the input reads as it did. -/
def heapWrongUptoRow : OpenClaim := { program := "ytiblnccbeefdkaa", sum := "798946c08a31955d02c0bd07c4cd60dede7ad302644ebe098278e14bfe84eef1", func := "bramble/bramblelaw03.HeapWrong", spec := "heapWrong", unfollowed := true, recurses := true, apart := false, narrowed := true }
def HeapWrongUptoSaid : Prop := heapWrongUptoRow.holds Try.pinned (OpenSpec.upto heapWrongSpec)

/-- 'bramblelaw03.HeapPlays', WHERE WHAT IT READS IS OF BULK AT MOST 1048576: true; the input reads as it did. -/
def heapPlaysUptoRow : OpenClaim := { program := "ytiblnccbeefdkaa", sum := "798946c08a31955d02c0bd07c4cd60dede7ad302644ebe098278e14bfe84eef1", func := "bramble/bramblelaw03.HeapPlays", spec := "heapPlays", unfollowed := true, recurses := true, apart := false, narrowed := true }
def HeapPlaysUptoSaid : Prop := heapPlaysUptoRow.holds Try.pinned (OpenSpec.upto heapPlaysSpec)

/-- 'bramblelaw03.HeapTexts', WHERE WHAT IT READS IS OF BULK AT MOST 1048576: true; the input reads as it did. -/
def heapTextsUptoRow : OpenClaim := { program := "ytiblnccbeefdkaa", sum := "798946c08a31955d02c0bd07c4cd60dede7ad302644ebe098278e14bfe84eef1", func := "bramble/bramblelaw03.HeapTexts", spec := "heapTexts", unfollowed := true, recurses := true, apart := false, narrowed := true }
def HeapTextsUptoSaid : Prop := heapTextsUptoRow.holds Try.pinned (OpenSpec.upto heapTextsSpec)

end Rows
end Go.Proofs.Ytiblnccbeefdkaa
