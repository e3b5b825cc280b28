/-
  No cell of these rows narrows 'for every input' (looked for: loops, veiled, ifaces, maps, wideKeys, modest, calm, conditions, laid).
  DERIVED. THE GIVEN ROWS OF THIS SEAT. 6 by the template 'for every input the law returns true; each argument reads behind the call as it read before'; 0 by the template 'total and deterministic' (their statements: YtbaciaolhfmfkaaTotals.lean).
  GIVEN WITH THE SEED: the statements are not yours to turn. If you find one false, say at which input.
  Laid BY PROGRAM, IN A SANDBOX (cutbox-rows.mjs): the forced cells as the released guide's own fill.sh prints them over the translation 311d098ea69a602b… (all of the seat's roots in one cut). By AI agents, Wed Nov 11 2026. No macro, syntax, notation, axiom, sorry.
-/
import Derived.Test.YtbaciaolhfmfkaaChecked
import GoSem.Claim
import GoSem.ClaimJoined
import GoSem.ClaimMapViews
import Derived.JoinedTies
import Derived.KernelRfl
namespace Go.Proofs.Ytbaciaolhfmfkaa
/- THE CELL 'sum', in the pinned program and in every row, IS THE sha256 OF THE DUMP (.gsa) THAT YtbaciaolhfmfkaaProg.lean LOADS. Nothing in Lean hashes anything: it is a label: what it is worth is what the hold of that sum in a sandbox is worth. -/
noncomputable def Try.pinned : Pinned := { name := "ytbaciaolhfmfkaa", sum := "311d098ea69a602b75e58582027657c78a4aee440b389d038f2bac1edb7bb708", checked := Try.checked }
namespace Rows
def none {H : Type} : Left H := { results := [], args := [] }

/-- 'bramblelaw02.SpansMembers': WHATEVER THE INPUT: true; the input reads as it did. -/
def spansMembersSpec : ChangeSpec := { name := "spansMembers", fn := fun _ => fun
  | [d] => { results := [.lit (.bool true)], args := [d] }
  | _ => none }
def spansMembersRow : OpenClaim := { program := "ytbaciaolhfmfkaa", sum := "311d098ea69a602b75e58582027657c78a4aee440b389d038f2bac1edb7bb708", func := "bramble/bramblelaw02.SpansMembers", spec := "spansMembers", unfollowed := true, recurses := true, apart := false }
def SpansMembersSaid : Prop := spansMembersRow.holds Try.pinned (OpenSpec.ofChange spansMembersSpec)

/-- ITS FALSE NEIGHBOUR: 'it returns false'. Refute it at one input. -/
def spansMembersWrong : ChangeSpec := { name := "spansMembers", fn := fun _ => fun
  | [d] => { results := [.lit (.bool false)], args := [d] }
  | _ => none }
def SpansMembersWrongFalsely : Prop := spansMembersRow.holds Try.pinned (OpenSpec.ofChange spansMembersWrong)

/-- 'bramblelaw02.SpansOwn': WHATEVER THE INPUT: true; the input reads as it did. -/
def spansOwnSpec : ChangeSpec := { name := "spansOwn", fn := fun _ => fun
  | [d1, d2, d3] => { results := [.lit (.bool true)], args := [d1, d2, d3] }
  | _ => none }
def spansOwnRow : OpenClaim := { program := "ytbaciaolhfmfkaa", sum := "311d098ea69a602b75e58582027657c78a4aee440b389d038f2bac1edb7bb708", func := "bramble/bramblelaw02.SpansOwn", spec := "spansOwn", unfollowed := true, recurses := true, apart := false }
def SpansOwnSaid : Prop := spansOwnRow.holds Try.pinned (OpenSpec.ofChange spansOwnSpec)

/-- ITS FALSE NEIGHBOUR: 'it returns false'. Refute it at one input. -/
def spansOwnWrong : ChangeSpec := { name := "spansOwn", fn := fun _ => fun
  | [d1, d2, d3] => { results := [.lit (.bool false)], args := [d1, d2, d3] }
  | _ => none }
def SpansOwnWrongFalsely : Prop := spansOwnRow.holds Try.pinned (OpenSpec.ofChange spansOwnWrong)

/-- 'bramblelaw02.SpansPlays': WHATEVER THE INPUT: true; the input reads as it did. -/
def spansPlaysSpec : ChangeSpec := { name := "spansPlays", fn := fun _ => fun
  | [d] => { results := [.lit (.bool true)], args := [d] }
  | _ => none }
def spansPlaysRow : OpenClaim := { program := "ytbaciaolhfmfkaa", sum := "311d098ea69a602b75e58582027657c78a4aee440b389d038f2bac1edb7bb708", func := "bramble/bramblelaw02.SpansPlays", spec := "spansPlays", unfollowed := true, recurses := true, apart := false }
def SpansPlaysSaid : Prop := spansPlaysRow.holds Try.pinned (OpenSpec.ofChange spansPlaysSpec)

/-- ITS FALSE NEIGHBOUR: 'it returns false'. Refute it at one input. -/
def spansPlaysWrong : ChangeSpec := { name := "spansPlays", fn := fun _ => fun
  | [d] => { results := [.lit (.bool false)], args := [d] }
  | _ => none }
def SpansPlaysWrongFalsely : Prop := spansPlaysRow.holds Try.pinned (OpenSpec.ofChange spansPlaysWrong)

/-- 'bramblelaw02.SpansBytes': WHATEVER THE INPUT: true; the input reads as it did. -/
def spansBytesSpec : ChangeSpec := { name := "spansBytes", fn := fun _ => fun
  | [d] => { results := [.lit (.bool true)], args := [d] }
  | _ => none }
def spansBytesRow : OpenClaim := { program := "ytbaciaolhfmfkaa", sum := "311d098ea69a602b75e58582027657c78a4aee440b389d038f2bac1edb7bb708", func := "bramble/bramblelaw02.SpansBytes", spec := "spansBytes", unfollowed := true, recurses := true, apart := false }
def SpansBytesSaid : Prop := spansBytesRow.holds Try.pinned (OpenSpec.ofChange spansBytesSpec)

/-- ITS FALSE NEIGHBOUR: 'it returns false'. Refute it at one input. -/
def spansBytesWrong : ChangeSpec := { name := "spansBytes", fn := fun _ => fun
  | [d] => { results := [.lit (.bool false)], args := [d] }
  | _ => none }
def SpansBytesWrongFalsely : Prop := spansBytesRow.holds Try.pinned (OpenSpec.ofChange spansBytesWrong)

/-- 'bramblelaw02.SpansTicks': WHATEVER THE INPUT: true; the input reads as it did. -/
def spansTicksSpec : ChangeSpec := { name := "spansTicks", fn := fun _ => fun
  | [d] => { results := [.lit (.bool true)], args := [d] }
  | _ => none }
def spansTicksRow : OpenClaim := { program := "ytbaciaolhfmfkaa", sum := "311d098ea69a602b75e58582027657c78a4aee440b389d038f2bac1edb7bb708", func := "bramble/bramblelaw02.SpansTicks", spec := "spansTicks", unfollowed := true, recurses := true, apart := false }
def SpansTicksSaid : Prop := spansTicksRow.holds Try.pinned (OpenSpec.ofChange spansTicksSpec)

/-- ITS FALSE NEIGHBOUR: 'it returns false'. Refute it at one input. -/
def spansTicksWrong : ChangeSpec := { name := "spansTicks", fn := fun _ => fun
  | [d] => { results := [.lit (.bool false)], args := [d] }
  | _ => none }
def SpansTicksWrongFalsely : Prop := spansTicksRow.holds Try.pinned (OpenSpec.ofChange spansTicksWrong)

/-- 'bramblelaw02.SpansWays': WHATEVER THE INPUT: true; the input reads as it did. -/
def spansWaysSpec : ChangeSpec := { name := "spansWays", fn := fun _ => fun
  | [d1, d2] => { results := [.lit (.bool true)], args := [d1, d2] }
  | _ => none }
def spansWaysRow : OpenClaim := { program := "ytbaciaolhfmfkaa", sum := "311d098ea69a602b75e58582027657c78a4aee440b389d038f2bac1edb7bb708", func := "bramble/bramblelaw02.SpansWays", spec := "spansWays", unfollowed := true, recurses := true, apart := false }
def SpansWaysSaid : Prop := spansWaysRow.holds Try.pinned (OpenSpec.ofChange spansWaysSpec)

/-- ITS FALSE NEIGHBOUR: 'it returns false'. Refute it at one input. -/
def spansWaysWrong : ChangeSpec := { name := "spansWays", fn := fun _ => fun
  | [d1, d2] => { results := [.lit (.bool false)], args := [d1, d2] }
  | _ => none }
def SpansWaysWrongFalsely : Prop := spansWaysRow.holds Try.pinned (OpenSpec.ofChange spansWaysWrong)

/- THE SECOND FORM. 'bulk': how many values and letters a reading holds, each counted each time it is reached (what is shared counts as often as it is met; a slice's spare places count too). A statement '..UptoSaid' is the law's where the arguments, and the package variables that the reading takes, are together of bulk at most 1048576: NARROWER than '..Said'. Prove '..Said' where nothing that the law and all that it calls make is longer than what came in: it says more and counts as full. Else prove '..UptoSaid'. A law counts once. -/
mutual
def uptoBulk {H : Type} : DataW H → Nat
  | .lit (.string bytes) => bytes.length + 1
  | .lit _ => 1
  | .nil => 1
  | .ptr d => uptoBulk d + 1
  | .slice elems spare => uptoBulkAll elems + uptoBulkAll spare + 1
  | .agg parts => uptoBulkAll parts + 1
  | .iface _ d => uptoBulk d + 1
  | .map entries => uptoBulkEntries entries + 1
  | .held _ => 1
def uptoBulkAll {H : Type} : List (DataW H) → Nat
  | [] => 0
  | d :: r => uptoBulk d + uptoBulkAll r
def uptoBulkEntries {H : Type} : List (Lit × DataW H) → Nat
  | [] => 0
  | x :: r => uptoBulkEntry x + uptoBulkEntries r
def uptoBulkEntry {H : Type} : Lit × DataW H → Nat
  | (.string bytes, d) => bytes.length + uptoBulk d + 1
  | (_, d) => uptoBulk d + 1
 end
def uptoSmall : (H : Type) → List (DataW H) → Bool := fun _ ds => decide (uptoBulkAll ds ≤ 1048576)
def OpenSpec.upto (s : _root_.Go.ChangeSpec) : _root_.Go.OpenSpec := { _root_.Go.OpenSpec.ofChange s with cond := some uptoSmall }

/-- 'bramblelaw02.SpansMembers', WHERE WHAT IT READS IS OF BULK AT MOST 1048576: true; the input reads as it did. -/
def spansMembersUptoRow : OpenClaim := { program := "ytbaciaolhfmfkaa", sum := "311d098ea69a602b75e58582027657c78a4aee440b389d038f2bac1edb7bb708", func := "bramble/bramblelaw02.SpansMembers", spec := "spansMembers", unfollowed := true, recurses := true, apart := false, narrowed := true }
def SpansMembersUptoSaid : Prop := spansMembersUptoRow.holds Try.pinned (OpenSpec.upto spansMembersSpec)

/-- 'bramblelaw02.SpansOwn', WHERE WHAT IT READS IS OF BULK AT MOST 1048576: true; the input reads as it did. -/
def spansOwnUptoRow : OpenClaim := { program := "ytbaciaolhfmfkaa", sum := "311d098ea69a602b75e58582027657c78a4aee440b389d038f2bac1edb7bb708", func := "bramble/bramblelaw02.SpansOwn", spec := "spansOwn", unfollowed := true, recurses := true, apart := false, narrowed := true }
def SpansOwnUptoSaid : Prop := spansOwnUptoRow.holds Try.pinned (OpenSpec.upto spansOwnSpec)

/-- 'bramblelaw02.SpansPlays', WHERE WHAT IT READS IS OF BULK AT MOST 1048576: true; the input reads as it did. -/
def spansPlaysUptoRow : OpenClaim := { program := "ytbaciaolhfmfkaa", sum := "311d098ea69a602b75e58582027657c78a4aee440b389d038f2bac1edb7bb708", func := "bramble/bramblelaw02.SpansPlays", spec := "spansPlays", unfollowed := true, recurses := true, apart := false, narrowed := true }
def SpansPlaysUptoSaid : Prop := spansPlaysUptoRow.holds Try.pinned (OpenSpec.upto spansPlaysSpec)

/-- 'bramblelaw02.SpansBytes', WHERE WHAT IT READS IS OF BULK AT MOST 1048576: true; the input reads as it did. -/
def spansBytesUptoRow : OpenClaim := { program := "ytbaciaolhfmfkaa", sum := "311d098ea69a602b75e58582027657c78a4aee440b389d038f2bac1edb7bb708", func := "bramble/bramblelaw02.SpansBytes", spec := "spansBytes", unfollowed := true, recurses := true, apart := false, narrowed := true }
def SpansBytesUptoSaid : Prop := spansBytesUptoRow.holds Try.pinned (OpenSpec.upto spansBytesSpec)

/-- 'bramblelaw02.SpansTicks', WHERE WHAT IT READS IS OF BULK AT MOST 1048576: true; the input reads as it did. -/
def spansTicksUptoRow : OpenClaim := { program := "ytbaciaolhfmfkaa", sum := "311d098ea69a602b75e58582027657c78a4aee440b389d038f2bac1edb7bb708", func := "bramble/bramblelaw02.SpansTicks", spec := "spansTicks", unfollowed := true, recurses := true, apart := false, narrowed := true }
def SpansTicksUptoSaid : Prop := spansTicksUptoRow.holds Try.pinned (OpenSpec.upto spansTicksSpec)

/-- 'bramblelaw02.SpansWays', WHERE WHAT IT READS IS OF BULK AT MOST 1048576: true; the input reads as it did. -/
def spansWaysUptoRow : OpenClaim := { program := "ytbaciaolhfmfkaa", sum := "311d098ea69a602b75e58582027657c78a4aee440b389d038f2bac1edb7bb708", func := "bramble/bramblelaw02.SpansWays", spec := "spansWays", unfollowed := true, recurses := true, apart := false, narrowed := true }
def SpansWaysUptoSaid : Prop := spansWaysUptoRow.holds Try.pinned (OpenSpec.upto spansWaysSpec)

end Rows
end Go.Proofs.Ytbaciaolhfmfkaa
