/-
  No cell of these rows narrows 'for every input' (looked for: loops, veiled, ifaces, maps, wideKeys, modest, calm, conditions, laid).
  DERIVED. THE GIVEN ROWS OF THIS SEAT. 4 by the template 'for every input the law returns true; each argument reads behind the call as it read before'; 0 by the template 'total and deterministic' (their statements: YtiocnkoogachkaaTotals.lean).
  GIVEN WITH THE SEED: the statements are not yours to turn. If you find one false, say at which input.
  Laid BY PROGRAM, IN A SANDBOX (cutbox-rows.mjs): the forced cells as the released guide's own fill.sh prints them over the translation b2bd54ef6a60b51a… (all of the seat's roots in one cut). By AI agents, Wed Nov 11 2026. No macro, syntax, notation, axiom, sorry.
-/
import Derived.Test.YtiocnkoogachkaaChecked
import GoSem.Claim
import GoSem.ClaimJoined
import GoSem.ClaimMapViews
import Derived.JoinedTies
import Derived.KernelRfl
namespace Go.Proofs.Ytiocnkoogachkaa
/- THE CELL 'sum', in the pinned program and in every row, IS THE sha256 OF THE DUMP (.gsa) THAT YtiocnkoogachkaaProg.lean LOADS. Nothing in Lean hashes anything: it is a label: what it is worth is what the hold of that sum in a sandbox is worth. -/
noncomputable def Try.pinned : Pinned := { name := "ytiocnkoogachkaa", sum := "b2bd54ef6a60b51a02c6f44f3b04457c856e504bca4b5c8d6fbf1149437bbcbb", checked := Try.checked }
namespace Rows
def none {H : Type} : Left H := { results := [], args := [] }

/-- 'bramblelaw04.SlotsLeast': WHATEVER THE INPUT: true; the input reads as it did. -/
def slotsLeastSpec : ChangeSpec := { name := "slotsLeast", fn := fun _ => fun
  | [d1, d2] => { results := [.lit (.bool true)], args := [d1, d2] }
  | _ => none }
def slotsLeastRow : OpenClaim := { program := "ytiocnkoogachkaa", sum := "b2bd54ef6a60b51a02c6f44f3b04457c856e504bca4b5c8d6fbf1149437bbcbb", func := "bramble/bramblelaw04.SlotsLeast", spec := "slotsLeast", unfollowed := true, recurses := true, apart := false }
def SlotsLeastSaid : Prop := slotsLeastRow.holds Try.pinned (OpenSpec.ofChange slotsLeastSpec)

/-- ITS FALSE NEIGHBOUR: 'it returns false'. Refute it at one input. -/
def slotsLeastWrong : ChangeSpec := { name := "slotsLeast", fn := fun _ => fun
  | [d1, d2] => { results := [.lit (.bool false)], args := [d1, d2] }
  | _ => none }
def SlotsLeastWrongFalsely : Prop := slotsLeastRow.holds Try.pinned (OpenSpec.ofChange slotsLeastWrong)

/-- 'bramblelaw04.SlotsFull': WHATEVER THE INPUT: true; the input reads as it did. -/
def slotsFullSpec : ChangeSpec := { name := "slotsFull", fn := fun _ => fun
  | [d1, d2] => { results := [.lit (.bool true)], args := [d1, d2] }
  | _ => none }
def slotsFullRow : OpenClaim := { program := "ytiocnkoogachkaa", sum := "b2bd54ef6a60b51a02c6f44f3b04457c856e504bca4b5c8d6fbf1149437bbcbb", func := "bramble/bramblelaw04.SlotsFull", spec := "slotsFull", unfollowed := true, recurses := true, apart := false }
def SlotsFullSaid : Prop := slotsFullRow.holds Try.pinned (OpenSpec.ofChange slotsFullSpec)

/-- ITS FALSE NEIGHBOUR: 'it returns false'. Refute it at one input. -/
def slotsFullWrong : ChangeSpec := { name := "slotsFull", fn := fun _ => fun
  | [d1, d2] => { results := [.lit (.bool false)], args := [d1, d2] }
  | _ => none }
def SlotsFullWrongFalsely : Prop := slotsFullRow.holds Try.pinned (OpenSpec.ofChange slotsFullWrong)

/-- 'bramblelaw04.SlotsPlays': WHATEVER THE INPUT: true; the input reads as it did. -/
def slotsPlaysSpec : ChangeSpec := { name := "slotsPlays", fn := fun _ => fun
  | [d1, d2] => { results := [.lit (.bool true)], args := [d1, d2] }
  | _ => none }
def slotsPlaysRow : OpenClaim := { program := "ytiocnkoogachkaa", sum := "b2bd54ef6a60b51a02c6f44f3b04457c856e504bca4b5c8d6fbf1149437bbcbb", func := "bramble/bramblelaw04.SlotsPlays", spec := "slotsPlays", unfollowed := true, recurses := true, apart := false }
def SlotsPlaysSaid : Prop := slotsPlaysRow.holds Try.pinned (OpenSpec.ofChange slotsPlaysSpec)

/-- ITS FALSE NEIGHBOUR: 'it returns false'. Refute it at one input. -/
def slotsPlaysWrong : ChangeSpec := { name := "slotsPlays", fn := fun _ => fun
  | [d1, d2] => { results := [.lit (.bool false)], args := [d1, d2] }
  | _ => none }
def SlotsPlaysWrongFalsely : Prop := slotsPlaysRow.holds Try.pinned (OpenSpec.ofChange slotsPlaysWrong)

/-- 'bramblelaw04.SlotsOwn': WHATEVER THE INPUT: true; the input reads as it did. -/
def slotsOwnSpec : ChangeSpec := { name := "slotsOwn", fn := fun _ => fun
  | [d1, d2] => { results := [.lit (.bool true)], args := [d1, d2] }
  | _ => none }
def slotsOwnRow : OpenClaim := { program := "ytiocnkoogachkaa", sum := "b2bd54ef6a60b51a02c6f44f3b04457c856e504bca4b5c8d6fbf1149437bbcbb", func := "bramble/bramblelaw04.SlotsOwn", spec := "slotsOwn", unfollowed := true, recurses := true, apart := false }
def SlotsOwnSaid : Prop := slotsOwnRow.holds Try.pinned (OpenSpec.ofChange slotsOwnSpec)

/-- ITS FALSE NEIGHBOUR: 'it returns false'. Refute it at one input. -/
def slotsOwnWrong : ChangeSpec := { name := "slotsOwn", fn := fun _ => fun
  | [d1, d2] => { results := [.lit (.bool false)], args := [d1, d2] }
  | _ => none }
def SlotsOwnWrongFalsely : Prop := slotsOwnRow.holds Try.pinned (OpenSpec.ofChange slotsOwnWrong)

/- THE SECOND FORM. 'bulk': how many values and letters a reading holds, each counted each time it is reached (what is shared counts as often as it is met; a slice's spare places count too). A statement '..UptoSaid' is the law's where the arguments, and the package variables that the reading takes, are together of bulk at most 1048576: NARROWER than '..Said'. Prove '..Said' where nothing that the law and all that it calls make is longer than what came in: it says more and counts as full. Else prove '..UptoSaid'. A law counts once. -/
mutual
def uptoBulk {H : Type} : DataW H → Nat
  | .lit (.string bytes) => bytes.length + 1
  | .lit _ => 1
  | .nil => 1
  | .ptr d => uptoBulk d + 1
  | .slice elems spare => uptoBulkAll elems + uptoBulkAll spare + 1
  | .agg parts => uptoBulkAll parts + 1
  | .iface _ d => uptoBulk d + 1
  | .map entries => uptoBulkEntries entries + 1
  | .held _ => 1
def uptoBulkAll {H : Type} : List (DataW H) → Nat
  | [] => 0
  | d :: r => uptoBulk d + uptoBulkAll r
def uptoBulkEntries {H : Type} : List (Lit × DataW H) → Nat
  | [] => 0
  | x :: r => uptoBulkEntry x + uptoBulkEntries r
def uptoBulkEntry {H : Type} : Lit × DataW H → Nat
  | (.string bytes, d) => bytes.length + uptoBulk d + 1
  | (_, d) => uptoBulk d + 1
 end
def uptoSmall : (H : Type) → List (DataW H) → Bool := fun _ ds => decide (uptoBulkAll ds ≤ 1048576)
def OpenSpec.upto (s : _root_.Go.ChangeSpec) : _root_.Go.OpenSpec := { _root_.Go.OpenSpec.ofChange s with cond := some uptoSmall }

/-- 'bramblelaw04.SlotsLeast', WHERE WHAT IT READS IS OF BULK AT MOST 1048576: true; the input reads as it did. -/
def slotsLeastUptoRow : OpenClaim := { program := "ytiocnkoogachkaa", sum := "b2bd54ef6a60b51a02c6f44f3b04457c856e504bca4b5c8d6fbf1149437bbcbb", func := "bramble/bramblelaw04.SlotsLeast", spec := "slotsLeast", unfollowed := true, recurses := true, apart := false, narrowed := true }
def SlotsLeastUptoSaid : Prop := slotsLeastUptoRow.holds Try.pinned (OpenSpec.upto slotsLeastSpec)

/-- 'bramblelaw04.SlotsFull', WHERE WHAT IT READS IS OF BULK AT MOST 1048576: true; the input reads as it did. -/
def slotsFullUptoRow : OpenClaim := { program := "ytiocnkoogachkaa", sum := "b2bd54ef6a60b51a02c6f44f3b04457c856e504bca4b5c8d6fbf1149437bbcbb", func := "bramble/bramblelaw04.SlotsFull", spec := "slotsFull", unfollowed := true, recurses := true, apart := false, narrowed := true }
def SlotsFullUptoSaid : Prop := slotsFullUptoRow.holds Try.pinned (OpenSpec.upto slotsFullSpec)

/-- 'bramblelaw04.SlotsPlays', WHERE WHAT IT READS IS OF BULK AT MOST 1048576: true; the input reads as it did. -/
def slotsPlaysUptoRow : OpenClaim := { program := "ytiocnkoogachkaa", sum := "b2bd54ef6a60b51a02c6f44f3b04457c856e504bca4b5c8d6fbf1149437bbcbb", func := "bramble/bramblelaw04.SlotsPlays", spec := "slotsPlays", unfollowed := true, recurses := true, apart := false, narrowed := true }
def SlotsPlaysUptoSaid : Prop := slotsPlaysUptoRow.holds Try.pinned (OpenSpec.upto slotsPlaysSpec)

/-- 'bramblelaw04.SlotsOwn', WHERE WHAT IT READS IS OF BULK AT MOST 1048576: true; the input reads as it did. -/
def slotsOwnUptoRow : OpenClaim := { program := "ytiocnkoogachkaa", sum := "b2bd54ef6a60b51a02c6f44f3b04457c856e504bca4b5c8d6fbf1149437bbcbb", func := "bramble/bramblelaw04.SlotsOwn", spec := "slotsOwn", unfollowed := true, recurses := true, apart := false, narrowed := true }
def SlotsOwnUptoSaid : Prop := slotsOwnUptoRow.holds Try.pinned (OpenSpec.upto slotsOwnSpec)

end Rows
end Go.Proofs.Ytiocnkoogachkaa
