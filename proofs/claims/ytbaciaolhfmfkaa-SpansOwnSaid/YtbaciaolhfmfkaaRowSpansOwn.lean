/- SpansOwn: an iterator gives the runs that there were when it was asked for, each time, and no answered list or clone shares memory with the set, whatever the calls (no conditions). -/
import Derived.Test.YtbaciaolhfmfkaaRows
import Derived.Test.YtbaciaolhfmfkaaVb
import Derived.WalkKit
import Derived.ProofKit
import Derived.OpenShut
import Derived.ShutString
import Derived.ChangeOld
import Derived.Below
import Derived.SizedLaws
import Derived.Test.YtbaciaolhfmfkaaWSized
import Derived.Test.YtbaciaolhfmfkaaWMore
namespace Go.Proofs.Ytbaciaolhfmfkaa.spansOwn
open Go.ChangeShapes Go.WideShapes Go.ChangeAt Go.RowKit
open Go.ChangeMaps (open_string shut_string)
open Go.Proofs.YtbaciaolhfmfkaaW.PrintWords
set_option linter.unusedVariables false
theorem own : ownKnob Try.prog.godebug = none := by kernel_rfl
theorem laidOut : laidOutB Try.prog = true := by kernel_rfl
def IsRow (k : IntKind) (w : World) (a : Option Addr) (len cap : Nat) (zs : List Int) : Prop :=
  (a = none ∧ len = 0 ∧ cap = 0 ∧ zs = []) ∨
  ∃ x, a = some x ∧ len ≤ cap ∧ cap ≤ maxLen ∧ zs.length = cap ∧ (∀ i, i < zs.length → w.cell? (x.add i) = some (.int k (zs.getD i 0))) ∧ ∀ n ∈ zs, (Lit.int k n).wf = true
set_option maxRecDepth 100000 in
theorem lifted (os : Os) (started : os.Started) (H : Type) (enc : TypeId × Value → H) :
    ReturnsInHanded {} Try.checked os 4 .any (Rows.spansOwnSpec.pre6 enc Try.prog Try.f4 Rows.spansOwnRow.domain false) (Rows.spansOwnSpec.post enc Try.prog Try.f4 false true false false) := by
  refine returnsInHanded_of_change_sized (C := Try.checked) own started (by kernel_rfl) Try.func4
    (ChangeSpec.witness6 (enc := enc) (C := Try.checked) false ⟨#[], #[.slice none 0 0, .slice none 0 0, .int .i64 0], []⟩ 8 (by kernel_rfl) (by kernel_rfl) (by kernel_rfl) (by kernel_rfl)) ?_
  intro W base args ds gs before hval0 hW hcnd hsz0 _
  have hsz : (DataW.weightsEach Try.prog (Try.f4.params.toList ++ Rows.spansOwnSpec.plain.varTypes Try.prog) (ds ++ gs)).all (· ≤ reachBytes) = true := hsz0
  have hval : ∀ (j : Nat) t v, Try.f4.params[j]? = some t → args[j]? = some v → Value.okWide Try.prog W .any base t v := hval0
  have hW' := hW
  obtain ⟨p, q, hA0, hV, rfl, hfz, hnd⟩ := hW
  have hA : DataW.TrodAll enc Try.prog W 0 (fun _ => true) true Try.f4.params.toList args.toList ds p := hA0
  rw [Try.params4] at hA hval hsz
  obtain ⟨v0, vs0, d0, ds0, p0, q0, hargs, rfl, rfl, h0, r0⟩ := trodAll_cons hA
  obtain ⟨v1, vs1, d1, ds1, p1, q1, rfl, rfl, rfl, h1, r1⟩ := trodAll_cons r0
  obtain ⟨v2, vs2, d2, ds2, p2, q2, rfl, rfl, rfl, h2, r2⟩ := trodAll_cons r1
  obtain ⟨rfl, rfl, rfl⟩ := trodAll_nil r2
  obtain rfl : args = #[v0, v1, v2] := by cases args; simp_all
  obtain ⟨rfl, rfl⟩ := trodVars_none hV
  obtain ⟨a0, len0, cap0, rfl⟩ := okWide_slice Try.underlying22 (hval 0 22 v0 rfl rfl)
  have k0 := h0
  have lt0 : ∀ x ∈ p0, x.block < W.heap.size := by obtain ⟨m, hm⟩ := k0; exact DataW.trod_lt m _ _ _ hm
  obtain ⟨T0, hl0, hm0, hT0⟩ : ∃ T : Nat → Op.Rec, len0 ≤ cap0 ∧ cap0 ≤ maxLen ∧ ∀ i, i < len0 → ∃ a, a0 = some a ∧ W.cell? (a.add (i * 4)) = some (.int .i64 (T i).kind) ∧ W.cell? (a.add (i * 4 + 1)) = some (.bool (T i).second) ∧ W.cell? (a.add (i * 4 + 2)) = some (.int .i64 (T i).lo) ∧ W.cell? (a.add (i * 4 + 3)) = some (.int .i64 (T i).hi) ∧ (Lit.int .i64 (T i).kind).wf = true ∧ (Lit.int .i64 (T i).lo).wf = true ∧ (Lit.int .i64 (T i).hi).wf = true := by
    obtain ⟨fuel, hf⟩ := h0
    exact Op.open_recs Try.underlying22 Try.underlying44 (by kernel_rfl) rfl rfl rfl rfl (by kernel_rfl) (by kernel_rfl) (by kernel_rfl) (by kernel_rfl) (by kernel_rfl) (by kernel_rfl) (by kernel_rfl) (by kernel_rfl) (by simpa [Value.cells] using hf)
  obtain ⟨a1, len1, cap1, rfl⟩ := okWide_slice Try.underlying22 (hval 1 22 v1 rfl rfl)
  have k1 := h1
  have lt1 : ∀ x ∈ p1, x.block < W.heap.size := by obtain ⟨m, hm⟩ := k1; exact DataW.trod_lt m _ _ _ hm
  obtain ⟨T1, hl1, hm1, hT1⟩ : ∃ T : Nat → Op.Rec, len1 ≤ cap1 ∧ cap1 ≤ maxLen ∧ ∀ i, i < len1 → ∃ a, a1 = some a ∧ W.cell? (a.add (i * 4)) = some (.int .i64 (T i).kind) ∧ W.cell? (a.add (i * 4 + 1)) = some (.bool (T i).second) ∧ W.cell? (a.add (i * 4 + 2)) = some (.int .i64 (T i).lo) ∧ W.cell? (a.add (i * 4 + 3)) = some (.int .i64 (T i).hi) ∧ (Lit.int .i64 (T i).kind).wf = true ∧ (Lit.int .i64 (T i).lo).wf = true ∧ (Lit.int .i64 (T i).hi).wf = true := by
    obtain ⟨fuel, hf⟩ := h1
    exact Op.open_recs Try.underlying22 Try.underlying44 (by kernel_rfl) rfl rfl rfl rfl (by kernel_rfl) (by kernel_rfl) (by kernel_rfl) (by kernel_rfl) (by kernel_rfl) (by kernel_rfl) (by kernel_rfl) (by kernel_rfl) (by simpa [Value.cells] using hf)
  obtain ⟨a2, rfl, rfl, rfl, w2⟩ := open_int Try.underlying3 (hval 2 3 v2 rfl rfl) h2
  clear hA0 hval0 hsz0 hsz
  refine (Va.law_row a0 len0 cap0 T0 a1 len1 cap1 T1 a2 W hl0 hm0 hT0 hl1 hm1 hT1 w2).mono fun e W' ⟨he, bel⟩ => ?_
  subst he
  exact ⟨_, rfl, _, _, _, [], _, [], hW', trodAll_mk1 (shut_bool Try.underlying4 _), (trodAll_cons_mk (Below.trod laidOut (by kernel_rfl) (of_decide_eq_true (by kernel_rfl)) k0 bel lt0) (trodAll_cons_mk (Below.trod laidOut (by kernel_rfl) (of_decide_eq_true (by kernel_rfl)) k1 bel lt1) (trodAll_cons_mk (shut_int Try.underlying3 w2) trodAll_mk0))), rfl, bel.frame _, fun h => by cases h⟩
theorem over : Rows.spansOwnRow.holds Try.pinned (OpenSpec.ofChange Rows.spansOwnSpec) :=
  OpenClaim.holds_of_wide 4 Try.f4 rfl rfl rfl rfl rfl rfl rfl ⟨rfl, rfl, rfl, rfl, rfl⟩ rfl rfl rfl rfl rfl (by kernel_rfl) Try.func4 (by kernel_rfl)
    (of_decide_eq_true (by kernel_rfl)) (by unfold Func.isWrapper; first | (rw [if_pos (by decide +kernel)]; kernel_rfl) | (rw [if_neg (by decide +kernel)]; exact ⟨rfl, rfl⟩))
    (fun os started H enc _ => lifted os started H enc)
end Go.Proofs.Ytbaciaolhfmfkaa.spansOwn
namespace Go.Proofs.Ytbaciaolhfmfkaa
theorem spansOwn_holds : Rows.SpansOwnSaid := spansOwn.over
#print axioms spansOwn_holds
end Go.Proofs.Ytbaciaolhfmfkaa
