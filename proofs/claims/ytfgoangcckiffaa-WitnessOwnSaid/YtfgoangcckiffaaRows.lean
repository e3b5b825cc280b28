/-
  No cell of these rows narrows 'for every input' (looked for: loops, veiled, ifaces, maps, wideKeys, modest, calm, conditions, laid).
  DERIVED. THE GIVEN ROWS OF THIS SEAT. 4 by the template 'for every input the law returns true; each argument reads behind the call as it read before'; 0 by the template 'total and deterministic' (their statements: YtfgoangcckiffaaTotals.lean).
  GIVEN WITH THE SEED: the statements are not yours to turn. If you find one false, say at which input.
  Laid BY PROGRAM, IN A SANDBOX (cutbox-rows.mjs): the forced cells as the released guide's own fill.sh prints them over the translation 03fac37becf48fad… (all of the seat's roots in one cut). By AI agents, Wed Nov 11 2026. No macro, syntax, notation, axiom, sorry.
-/
import Derived.Test.YtfgoangcckiffaaChecked
import GoSem.Claim
import GoSem.ClaimJoined
import GoSem.ClaimMapViews
import Derived.JoinedTies
import Derived.KernelRfl
namespace Go.Proofs.Ytfgoangcckiffaa
/- THE CELL 'sum', in the pinned program and in every row, IS THE sha256 OF THE DUMP (.gsa) THAT YtfgoangcckiffaaProg.lean LOADS. Nothing in Lean hashes anything: it is a label: what it is worth is what the hold of that sum in a sandbox is worth. -/
noncomputable def Try.pinned : Pinned := { name := "ytfgoangcckiffaa", sum := "03fac37becf48fadd8c62ab3c9999eea437d7528bec5b4fa5448feaaae064203", checked := Try.checked }
namespace Rows
def none {H : Type} : Left H := { results := [], args := [] }

/-- 'bramblelaw16.WitnessEncodes': WHATEVER THE INPUT: true; the input reads as it did. -/
def witnessEncodesSpec : ChangeSpec := { name := "witnessEncodes", fn := fun _ => fun
  | [d] => { results := [.lit (.bool true)], args := [d] }
  | _ => none }
def witnessEncodesRow : OpenClaim := { program := "ytfgoangcckiffaa", sum := "03fac37becf48fadd8c62ab3c9999eea437d7528bec5b4fa5448feaaae064203", func := "bramble/bramblelaw16.WitnessEncodes", spec := "witnessEncodes", unfollowed := true, recurses := true, apart := false }
def WitnessEncodesSaid : Prop := witnessEncodesRow.holds Try.pinned (OpenSpec.ofChange witnessEncodesSpec)

/-- ITS FALSE NEIGHBOUR: 'it returns false'. Refute it at one input. -/
def witnessEncodesWrong : ChangeSpec := { name := "witnessEncodes", fn := fun _ => fun
  | [d] => { results := [.lit (.bool false)], args := [d] }
  | _ => none }
def WitnessEncodesWrongFalsely : Prop := witnessEncodesRow.holds Try.pinned (OpenSpec.ofChange witnessEncodesWrong)

/-- 'bramblelaw16.WitnessDecodes': WHATEVER THE INPUT: true; the input reads as it did. -/
def witnessDecodesSpec : ChangeSpec := { name := "witnessDecodes", fn := fun _ => fun
  | [d] => { results := [.lit (.bool true)], args := [d] }
  | _ => none }
def witnessDecodesRow : OpenClaim := { program := "ytfgoangcckiffaa", sum := "03fac37becf48fadd8c62ab3c9999eea437d7528bec5b4fa5448feaaae064203", func := "bramble/bramblelaw16.WitnessDecodes", spec := "witnessDecodes", unfollowed := true, recurses := true, apart := false }
def WitnessDecodesSaid : Prop := witnessDecodesRow.holds Try.pinned (OpenSpec.ofChange witnessDecodesSpec)

/-- ITS FALSE NEIGHBOUR: 'it returns false'. Refute it at one input. -/
def witnessDecodesWrong : ChangeSpec := { name := "witnessDecodes", fn := fun _ => fun
  | [d] => { results := [.lit (.bool false)], args := [d] }
  | _ => none }
def WitnessDecodesWrongFalsely : Prop := witnessDecodesRow.holds Try.pinned (OpenSpec.ofChange witnessDecodesWrong)

/-- 'bramblelaw16.WitnessBack': WHATEVER THE INPUT: true; the input reads as it did. -/
def witnessBackSpec : ChangeSpec := { name := "witnessBack", fn := fun _ => fun
  | [d1, d2, d3] => { results := [.lit (.bool true)], args := [d1, d2, d3] }
  | _ => none }
def witnessBackRow : OpenClaim := { program := "ytfgoangcckiffaa", sum := "03fac37becf48fadd8c62ab3c9999eea437d7528bec5b4fa5448feaaae064203", func := "bramble/bramblelaw16.WitnessBack", spec := "witnessBack", unfollowed := true, recurses := true, apart := false }
def WitnessBackSaid : Prop := witnessBackRow.holds Try.pinned (OpenSpec.ofChange witnessBackSpec)

/-- ITS FALSE NEIGHBOUR: 'it returns false'. Refute it at one input. -/
def witnessBackWrong : ChangeSpec := { name := "witnessBack", fn := fun _ => fun
  | [d1, d2, d3] => { results := [.lit (.bool false)], args := [d1, d2, d3] }
  | _ => none }
def WitnessBackWrongFalsely : Prop := witnessBackRow.holds Try.pinned (OpenSpec.ofChange witnessBackWrong)

/-- 'bramblelaw16.WitnessOwn': WHATEVER THE INPUT: true; the input reads as it did. -/
def witnessOwnSpec : ChangeSpec := { name := "witnessOwn", fn := fun _ => fun
  | [d] => { results := [.lit (.bool true)], args := [d] }
  | _ => none }
def witnessOwnRow : OpenClaim := { program := "ytfgoangcckiffaa", sum := "03fac37becf48fadd8c62ab3c9999eea437d7528bec5b4fa5448feaaae064203", func := "bramble/bramblelaw16.WitnessOwn", spec := "witnessOwn", unfollowed := true, recurses := true, apart := false }
def WitnessOwnSaid : Prop := witnessOwnRow.holds Try.pinned (OpenSpec.ofChange witnessOwnSpec)

/-- ITS FALSE NEIGHBOUR: 'it returns false'. Refute it at one input. -/
def witnessOwnWrong : ChangeSpec := { name := "witnessOwn", fn := fun _ => fun
  | [d] => { results := [.lit (.bool false)], args := [d] }
  | _ => none }
def WitnessOwnWrongFalsely : Prop := witnessOwnRow.holds Try.pinned (OpenSpec.ofChange witnessOwnWrong)

/- THE SECOND FORM. 'bulk': how many values and letters a reading holds, each counted each time it is reached (what is shared counts as often as it is met; a slice's spare places count too). A statement '..UptoSaid' is the law's where the arguments, and the package variables that the reading takes, are together of bulk at most 1048576: NARROWER than '..Said'. Prove '..Said' where nothing that the law and all that it calls make is longer than what came in: it says more and counts as full. Else prove '..UptoSaid'. A law counts once. -/
mutual
def uptoBulk {H : Type} : DataW H → Nat
  | .lit (.string bytes) => bytes.length + 1
  | .lit _ => 1
  | .nil => 1
  | .ptr d => uptoBulk d + 1
  | .slice elems spare => uptoBulkAll elems + uptoBulkAll spare + 1
  | .agg parts => uptoBulkAll parts + 1
  | .iface _ d => uptoBulk d + 1
  | .map entries => uptoBulkEntries entries + 1
  | .held _ => 1
def uptoBulkAll {H : Type} : List (DataW H) → Nat
  | [] => 0
  | d :: r => uptoBulk d + uptoBulkAll r
def uptoBulkEntries {H : Type} : List (Lit × DataW H) → Nat
  | [] => 0
  | x :: r => uptoBulkEntry x + uptoBulkEntries r
def uptoBulkEntry {H : Type} : Lit × DataW H → Nat
  | (.string bytes, d) => bytes.length + uptoBulk d + 1
  | (_, d) => uptoBulk d + 1
 end
def uptoSmall : (H : Type) → List (DataW H) → Bool := fun _ ds => decide (uptoBulkAll ds ≤ 1048576)
def OpenSpec.upto (s : _root_.Go.ChangeSpec) : _root_.Go.OpenSpec := { _root_.Go.OpenSpec.ofChange s with cond := some uptoSmall }

/-- 'bramblelaw16.WitnessEncodes', WHERE WHAT IT READS IS OF BULK AT MOST 1048576: true; the input reads as it did. -/
def witnessEncodesUptoRow : OpenClaim := { program := "ytfgoangcckiffaa", sum := "03fac37becf48fadd8c62ab3c9999eea437d7528bec5b4fa5448feaaae064203", func := "bramble/bramblelaw16.WitnessEncodes", spec := "witnessEncodes", unfollowed := true, recurses := true, apart := false, narrowed := true }
def WitnessEncodesUptoSaid : Prop := witnessEncodesUptoRow.holds Try.pinned (OpenSpec.upto witnessEncodesSpec)

/-- 'bramblelaw16.WitnessDecodes', WHERE WHAT IT READS IS OF BULK AT MOST 1048576: true; the input reads as it did. -/
def witnessDecodesUptoRow : OpenClaim := { program := "ytfgoangcckiffaa", sum := "03fac37becf48fadd8c62ab3c9999eea437d7528bec5b4fa5448feaaae064203", func := "bramble/bramblelaw16.WitnessDecodes", spec := "witnessDecodes", unfollowed := true, recurses := true, apart := false, narrowed := true }
def WitnessDecodesUptoSaid : Prop := witnessDecodesUptoRow.holds Try.pinned (OpenSpec.upto witnessDecodesSpec)

/-- 'bramblelaw16.WitnessBack', WHERE WHAT IT READS IS OF BULK AT MOST 1048576: true; the input reads as it did. -/
def witnessBackUptoRow : OpenClaim := { program := "ytfgoangcckiffaa", sum := "03fac37becf48fadd8c62ab3c9999eea437d7528bec5b4fa5448feaaae064203", func := "bramble/bramblelaw16.WitnessBack", spec := "witnessBack", unfollowed := true, recurses := true, apart := false, narrowed := true }
def WitnessBackUptoSaid : Prop := witnessBackUptoRow.holds Try.pinned (OpenSpec.upto witnessBackSpec)

/-- 'bramblelaw16.WitnessOwn', WHERE WHAT IT READS IS OF BULK AT MOST 1048576: true; the input reads as it did. -/
def witnessOwnUptoRow : OpenClaim := { program := "ytfgoangcckiffaa", sum := "03fac37becf48fadd8c62ab3c9999eea437d7528bec5b4fa5448feaaae064203", func := "bramble/bramblelaw16.WitnessOwn", spec := "witnessOwn", unfollowed := true, recurses := true, apart := false, narrowed := true }
def WitnessOwnUptoSaid : Prop := witnessOwnUptoRow.holds Try.pinned (OpenSpec.upto witnessOwnSpec)

end Rows
end Go.Proofs.Ytfgoangcckiffaa
