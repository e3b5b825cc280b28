/-
  No cell of these rows narrows 'for every input' (looked for: loops, veiled, ifaces, maps, wideKeys, modest, calm, conditions, laid).
  DERIVED. THE GIVEN ROWS OF THIS SEAT. 7 by the template 'for every input the law returns true; each argument reads behind the call as it read before'; 0 by the template 'total and deterministic' (their statements: YtbmphjnaefliaaaTotals.lean).
  GIVEN WITH THE SEED: the statements are not yours to turn. If you find one false, say at which input.
  Laid BY PROGRAM, IN A SANDBOX (cutbox-rows.mjs): the forced cells as the released guide's own fill.sh prints them over the translation e3c8102de201aae1… (all of the seat's roots in one cut). By AI agents, Wed Nov 11 2026. No macro, syntax, notation, axiom, sorry.
-/
import Derived.Test.YtbmphjnaefliaaaChecked
import GoSem.Claim
import GoSem.ClaimJoined
import GoSem.ClaimMapViews
import Derived.JoinedTies
import Derived.KernelRfl
namespace Go.Proofs.Ytbmphjnaefliaaa
/- THE CELL 'sum', in the pinned program and in every row, IS THE sha256 OF THE DUMP (.gsa) THAT YtbmphjnaefliaaaProg.lean LOADS. Nothing in Lean hashes anything: it is a label: what it is worth is what the hold of that sum in a sandbox is worth. -/
noncomputable def Try.pinned : Pinned := { name := "ytbmphjnaefliaaa", sum := "e3c8102de201aae1d74e7397d93725ad03540c5c2ce8e78ca6bb8935ad744797", checked := Try.checked }
namespace Rows
def none {H : Type} : Left H := { results := [], args := [] }

/-- 'bramblelaw01.WeightAdmits': WHATEVER THE INPUT: true; the input reads as it did. -/
def weightAdmitsSpec : ChangeSpec := { name := "weightAdmits", fn := fun _ => fun
  | [d] => { results := [.lit (.bool true)], args := [d] }
  | _ => none }
def weightAdmitsRow : OpenClaim := { program := "ytbmphjnaefliaaa", sum := "e3c8102de201aae1d74e7397d93725ad03540c5c2ce8e78ca6bb8935ad744797", func := "bramble/bramblelaw01.WeightAdmits", spec := "weightAdmits", inPlace := ["math.Float32frombits", "math.Float32bits", "math.Float64frombits"], apart := false }
def WeightAdmitsSaid : Prop := weightAdmitsRow.holds Try.pinned (OpenSpec.ofChange weightAdmitsSpec)

/-- ITS FALSE NEIGHBOUR: 'it returns false'. Refute it at one input. -/
def weightAdmitsWrong : ChangeSpec := { name := "weightAdmits", fn := fun _ => fun
  | [d] => { results := [.lit (.bool false)], args := [d] }
  | _ => none }
def WeightAdmitsWrongFalsely : Prop := weightAdmitsRow.holds Try.pinned (OpenSpec.ofChange weightAdmitsWrong)

/-- 'bramblelaw01.WeightAdds': WHATEVER THE INPUT: true; the input reads as it did. -/
def weightAddsSpec : ChangeSpec := { name := "weightAdds", fn := fun _ => fun
  | [d1, d2] => { results := [.lit (.bool true)], args := [d1, d2] }
  | _ => none }
def weightAddsRow : OpenClaim := { program := "ytbmphjnaefliaaa", sum := "e3c8102de201aae1d74e7397d93725ad03540c5c2ce8e78ca6bb8935ad744797", func := "bramble/bramblelaw01.WeightAdds", spec := "weightAdds", inPlace := ["math.Float32frombits", "math.Float32bits", "math.Float64frombits"], apart := false }
def WeightAddsSaid : Prop := weightAddsRow.holds Try.pinned (OpenSpec.ofChange weightAddsSpec)

/-- ITS FALSE NEIGHBOUR: 'it returns false'. Refute it at one input. -/
def weightAddsWrong : ChangeSpec := { name := "weightAdds", fn := fun _ => fun
  | [d1, d2] => { results := [.lit (.bool false)], args := [d1, d2] }
  | _ => none }
def WeightAddsWrongFalsely : Prop := weightAddsRow.holds Try.pinned (OpenSpec.ofChange weightAddsWrong)

/-- 'bramblelaw01.WeightOrder': WHATEVER THE INPUT: true; the input reads as it did. -/
def weightOrderSpec : ChangeSpec := { name := "weightOrder", fn := fun _ => fun
  | [d1, d2] => { results := [.lit (.bool true)], args := [d1, d2] }
  | _ => none }
def weightOrderRow : OpenClaim := { program := "ytbmphjnaefliaaa", sum := "e3c8102de201aae1d74e7397d93725ad03540c5c2ce8e78ca6bb8935ad744797", func := "bramble/bramblelaw01.WeightOrder", spec := "weightOrder", inPlace := ["math.Float32frombits", "math.Float32bits", "math.Float64frombits"], apart := false }
def WeightOrderSaid : Prop := weightOrderRow.holds Try.pinned (OpenSpec.ofChange weightOrderSpec)

/-- ITS FALSE NEIGHBOUR: 'it returns false'. Refute it at one input. -/
def weightOrderWrong : ChangeSpec := { name := "weightOrder", fn := fun _ => fun
  | [d1, d2] => { results := [.lit (.bool false)], args := [d1, d2] }
  | _ => none }
def WeightOrderWrongFalsely : Prop := weightOrderRow.holds Try.pinned (OpenSpec.ofChange weightOrderWrong)

/-- 'bramblelaw01.WeightRises': WHATEVER THE INPUT: true; the input reads as it did. -/
def weightRisesSpec : ChangeSpec := { name := "weightRises", fn := fun _ => fun
  | [d1, d2, d3] => { results := [.lit (.bool true)], args := [d1, d2, d3] }
  | _ => none }
def weightRisesRow : OpenClaim := { program := "ytbmphjnaefliaaa", sum := "e3c8102de201aae1d74e7397d93725ad03540c5c2ce8e78ca6bb8935ad744797", func := "bramble/bramblelaw01.WeightRises", spec := "weightRises", inPlace := ["math.Float32frombits", "math.Float32bits", "math.Float64frombits"], apart := false }
def WeightRisesSaid : Prop := weightRisesRow.holds Try.pinned (OpenSpec.ofChange weightRisesSpec)

/-- ITS FALSE NEIGHBOUR: 'it returns false'. Refute it at one input. -/
def weightRisesWrong : ChangeSpec := { name := "weightRises", fn := fun _ => fun
  | [d1, d2, d3] => { results := [.lit (.bool false)], args := [d1, d2, d3] }
  | _ => none }
def WeightRisesWrongFalsely : Prop := weightRisesRow.holds Try.pinned (OpenSpec.ofChange weightRisesWrong)

/-- 'bramblelaw01.WeightFolds': WHATEVER THE INPUT: true; the input reads as it did. -/
def weightFoldsSpec : ChangeSpec := { name := "weightFolds", fn := fun _ => fun
  | [d] => { results := [.lit (.bool true)], args := [d] }
  | _ => none }
def weightFoldsRow : OpenClaim := { program := "ytbmphjnaefliaaa", sum := "e3c8102de201aae1d74e7397d93725ad03540c5c2ce8e78ca6bb8935ad744797", func := "bramble/bramblelaw01.WeightFolds", spec := "weightFolds", inPlace := ["math.Float32frombits", "math.Float32bits", "math.Float64frombits"], apart := false }
def WeightFoldsSaid : Prop := weightFoldsRow.holds Try.pinned (OpenSpec.ofChange weightFoldsSpec)

/-- ITS FALSE NEIGHBOUR: 'it returns false'. Refute it at one input. -/
def weightFoldsWrong : ChangeSpec := { name := "weightFolds", fn := fun _ => fun
  | [d] => { results := [.lit (.bool false)], args := [d] }
  | _ => none }
def WeightFoldsWrongFalsely : Prop := weightFoldsRow.holds Try.pinned (OpenSpec.ofChange weightFoldsWrong)

/-- 'bramblelaw01.WeightGoesOn': WHATEVER THE INPUT: true; the input reads as it did. -/
def weightGoesOnSpec : ChangeSpec := { name := "weightGoesOn", fn := fun _ => fun
  | [d1, d2] => { results := [.lit (.bool true)], args := [d1, d2] }
  | _ => none }
def weightGoesOnRow : OpenClaim := { program := "ytbmphjnaefliaaa", sum := "e3c8102de201aae1d74e7397d93725ad03540c5c2ce8e78ca6bb8935ad744797", func := "bramble/bramblelaw01.WeightGoesOn", spec := "weightGoesOn", inPlace := ["math.Float32frombits", "math.Float32bits", "math.Float64frombits"], apart := false }
def WeightGoesOnSaid : Prop := weightGoesOnRow.holds Try.pinned (OpenSpec.ofChange weightGoesOnSpec)

/-- ITS FALSE NEIGHBOUR: 'it returns false'. Refute it at one input. -/
def weightGoesOnWrong : ChangeSpec := { name := "weightGoesOn", fn := fun _ => fun
  | [d1, d2] => { results := [.lit (.bool false)], args := [d1, d2] }
  | _ => none }
def WeightGoesOnWrongFalsely : Prop := weightGoesOnRow.holds Try.pinned (OpenSpec.ofChange weightGoesOnWrong)

/-- 'bramblelaw01.WeightTexts': WHATEVER THE INPUT: true; the input reads as it did. -/
def weightTextsSpec : ChangeSpec := { name := "weightTexts", fn := fun _ => fun
  | [d1, d2] => { results := [.lit (.bool true)], args := [d1, d2] }
  | _ => none }
def weightTextsRow : OpenClaim := { program := "ytbmphjnaefliaaa", sum := "e3c8102de201aae1d74e7397d93725ad03540c5c2ce8e78ca6bb8935ad744797", func := "bramble/bramblelaw01.WeightTexts", spec := "weightTexts", inPlace := ["math.Float32frombits", "math.Float32bits", "math.Float64frombits"], apart := false }
def WeightTextsSaid : Prop := weightTextsRow.holds Try.pinned (OpenSpec.ofChange weightTextsSpec)

/-- ITS FALSE NEIGHBOUR: 'it returns false'. Refute it at one input. -/
def weightTextsWrong : ChangeSpec := { name := "weightTexts", fn := fun _ => fun
  | [d1, d2] => { results := [.lit (.bool false)], args := [d1, d2] }
  | _ => none }
def WeightTextsWrongFalsely : Prop := weightTextsRow.holds Try.pinned (OpenSpec.ofChange weightTextsWrong)

/- THE SECOND FORM. 'bulk': how many values and letters a reading holds, each counted each time it is reached (what is shared counts as often as it is met; a slice's spare places count too). A statement '..UptoSaid' is the law's where the arguments, and the package variables that the reading takes, are together of bulk at most 1048576: NARROWER than '..Said'. Prove '..Said' where nothing that the law and all that it calls make is longer than what came in: it says more and counts as full. Else prove '..UptoSaid'. A law counts once. -/
mutual
def uptoBulk {H : Type} : DataW H → Nat
  | .lit (.string bytes) => bytes.length + 1
  | .lit _ => 1
  | .nil => 1
  | .ptr d => uptoBulk d + 1
  | .slice elems spare => uptoBulkAll elems + uptoBulkAll spare + 1
  | .agg parts => uptoBulkAll parts + 1
  | .iface _ d => uptoBulk d + 1
  | .map entries => uptoBulkEntries entries + 1
  | .held _ => 1
def uptoBulkAll {H : Type} : List (DataW H) → Nat
  | [] => 0
  | d :: r => uptoBulk d + uptoBulkAll r
def uptoBulkEntries {H : Type} : List (Lit × DataW H) → Nat
  | [] => 0
  | x :: r => uptoBulkEntry x + uptoBulkEntries r
def uptoBulkEntry {H : Type} : Lit × DataW H → Nat
  | (.string bytes, d) => bytes.length + uptoBulk d + 1
  | (_, d) => uptoBulk d + 1
 end
def uptoSmall : (H : Type) → List (DataW H) → Bool := fun _ ds => decide (uptoBulkAll ds ≤ 1048576)
def OpenSpec.upto (s : _root_.Go.ChangeSpec) : _root_.Go.OpenSpec := { _root_.Go.OpenSpec.ofChange s with cond := some uptoSmall }

/-- 'bramblelaw01.WeightAdmits', WHERE WHAT IT READS IS OF BULK AT MOST 1048576: true; the input reads as it did. -/
def weightAdmitsUptoRow : OpenClaim := { program := "ytbmphjnaefliaaa", sum := "e3c8102de201aae1d74e7397d93725ad03540c5c2ce8e78ca6bb8935ad744797", func := "bramble/bramblelaw01.WeightAdmits", spec := "weightAdmits", inPlace := ["math.Float32frombits", "math.Float32bits", "math.Float64frombits"], apart := false, narrowed := true }
def WeightAdmitsUptoSaid : Prop := weightAdmitsUptoRow.holds Try.pinned (OpenSpec.upto weightAdmitsSpec)

/-- 'bramblelaw01.WeightAdds', WHERE WHAT IT READS IS OF BULK AT MOST 1048576: true; the input reads as it did. -/
def weightAddsUptoRow : OpenClaim := { program := "ytbmphjnaefliaaa", sum := "e3c8102de201aae1d74e7397d93725ad03540c5c2ce8e78ca6bb8935ad744797", func := "bramble/bramblelaw01.WeightAdds", spec := "weightAdds", inPlace := ["math.Float32frombits", "math.Float32bits", "math.Float64frombits"], apart := false, narrowed := true }
def WeightAddsUptoSaid : Prop := weightAddsUptoRow.holds Try.pinned (OpenSpec.upto weightAddsSpec)

/-- 'bramblelaw01.WeightOrder', WHERE WHAT IT READS IS OF BULK AT MOST 1048576: true; the input reads as it did. -/
def weightOrderUptoRow : OpenClaim := { program := "ytbmphjnaefliaaa", sum := "e3c8102de201aae1d74e7397d93725ad03540c5c2ce8e78ca6bb8935ad744797", func := "bramble/bramblelaw01.WeightOrder", spec := "weightOrder", inPlace := ["math.Float32frombits", "math.Float32bits", "math.Float64frombits"], apart := false, narrowed := true }
def WeightOrderUptoSaid : Prop := weightOrderUptoRow.holds Try.pinned (OpenSpec.upto weightOrderSpec)

/-- 'bramblelaw01.WeightRises', WHERE WHAT IT READS IS OF BULK AT MOST 1048576: true; the input reads as it did. -/
def weightRisesUptoRow : OpenClaim := { program := "ytbmphjnaefliaaa", sum := "e3c8102de201aae1d74e7397d93725ad03540c5c2ce8e78ca6bb8935ad744797", func := "bramble/bramblelaw01.WeightRises", spec := "weightRises", inPlace := ["math.Float32frombits", "math.Float32bits", "math.Float64frombits"], apart := false, narrowed := true }
def WeightRisesUptoSaid : Prop := weightRisesUptoRow.holds Try.pinned (OpenSpec.upto weightRisesSpec)

/-- 'bramblelaw01.WeightFolds', WHERE WHAT IT READS IS OF BULK AT MOST 1048576: true; the input reads as it did. -/
def weightFoldsUptoRow : OpenClaim := { program := "ytbmphjnaefliaaa", sum := "e3c8102de201aae1d74e7397d93725ad03540c5c2ce8e78ca6bb8935ad744797", func := "bramble/bramblelaw01.WeightFolds", spec := "weightFolds", inPlace := ["math.Float32frombits", "math.Float32bits", "math.Float64frombits"], apart := false, narrowed := true }
def WeightFoldsUptoSaid : Prop := weightFoldsUptoRow.holds Try.pinned (OpenSpec.upto weightFoldsSpec)

/-- 'bramblelaw01.WeightGoesOn', WHERE WHAT IT READS IS OF BULK AT MOST 1048576: true; the input reads as it did. -/
def weightGoesOnUptoRow : OpenClaim := { program := "ytbmphjnaefliaaa", sum := "e3c8102de201aae1d74e7397d93725ad03540c5c2ce8e78ca6bb8935ad744797", func := "bramble/bramblelaw01.WeightGoesOn", spec := "weightGoesOn", inPlace := ["math.Float32frombits", "math.Float32bits", "math.Float64frombits"], apart := false, narrowed := true }
def WeightGoesOnUptoSaid : Prop := weightGoesOnUptoRow.holds Try.pinned (OpenSpec.upto weightGoesOnSpec)

/-- 'bramblelaw01.WeightTexts', WHERE WHAT IT READS IS OF BULK AT MOST 1048576: true; the input reads as it did. -/
def weightTextsUptoRow : OpenClaim := { program := "ytbmphjnaefliaaa", sum := "e3c8102de201aae1d74e7397d93725ad03540c5c2ce8e78ca6bb8935ad744797", func := "bramble/bramblelaw01.WeightTexts", spec := "weightTexts", inPlace := ["math.Float32frombits", "math.Float32bits", "math.Float64frombits"], apart := false, narrowed := true }
def WeightTextsUptoSaid : Prop := weightTextsUptoRow.holds Try.pinned (OpenSpec.upto weightTextsSpec)

end Rows
end Go.Proofs.Ytbmphjnaefliaaa
