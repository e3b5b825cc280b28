/- This text opens a slice of structs of a whole number, a bool and two whole numbers that came in. -/
import Derived.Deep.SlicePairs
import Derived.WalkKit
namespace Go.Proofs.Ytbaciaolhfmfkaa.Op
open Go.ChangeShapes Go.WideShapes Go.Deep
section
variable {H : Type} {enc : TypeId × Value → H} {P : Program} {w : World} {base : Nat} {held : Bool}
structure Rec where
  kind : Int
  second : Bool
  lo : Int
  hi : Int
instance : Inhabited Rec := ⟨⟨0, false, 0, 0⟩⟩
theorem open_recs {t e : TypeId} {f0 f1 f2 f3 : Field} {fuel : Nat} {A : Option Addr} {len cap : Nat} {x : DataW H × List MemPlace} (ht : P.underlying t = some (.slice e)) (he : P.underlying e = some (.struct #[f0, f1, f2, f3]))
    (ce : P.cellsOf e = 4) (o0 : f0.offset = 0) (o1 : f1.offset = 1) (o2 : f2.offset = 2) (o3 : f3.offset = 3) (c0 : P.cellsOf f0.type = 1) (c1 : P.cellsOf f1.type = 1) (c2 : P.cellsOf f2.type = 1) (c3 : P.cellsOf f3.type = 1)
    (u0 : P.underlying f0.type = some (.int .i64)) (u1 : P.underlying f1.type = some .bool) (u2 : P.underlying f2.type = some (.int .i64)) (u3 : P.underlying f3.type = some (.int .i64))
    (h : DataW.trod enc P w base (fun _ => true) held fuel t [.slice A len cap] = some x) :
    ∃ T : Nat → Rec, len ≤ cap ∧ cap ≤ maxLen ∧ ∀ i, i < len → ∃ a, A = some a ∧ w.cell? (a.add (i * 4)) = some (.int .i64 (T i).kind) ∧ w.cell? (a.add (i * 4 + 1)) = some (.bool (T i).second) ∧ w.cell? (a.add (i * 4 + 2)) = some (.int .i64 (T i).lo) ∧ w.cell? (a.add (i * 4 + 3)) = some (.int .i64 (T i).hi) ∧
      (Lit.int .i64 (T i).kind).wf = true ∧ (Lit.int .i64 (T i).lo).wf = true ∧ (Lit.int .i64 (T i).hi).wf = true := by
  rcases open_slice ht h with ⟨h0, _⟩ | ⟨a, len', cap', m, n, D, Pl, hcs, hb, hl, hm, hmm, rfl, hx⟩
  · simp at h0
    obtain ⟨rfl, rfl, rfl⟩ := h0
    exact ⟨fun _ => ⟨0, false, 0, 0⟩, Nat.le_refl _, by simp, fun i hi => absurd hi (by omega)⟩
  simp at hcs
  obtain ⟨rfl, rfl, rfl⟩ := hcs
  simp only [if_true] at hmm
  subst hmm
  have each : ∀ i, i < m → ∃ q : Rec, w.cell? (a.add (i * 4)) = some (.int .i64 q.kind) ∧ w.cell? (a.add (i * 4 + 1)) = some (.bool q.second) ∧ w.cell? (a.add (i * 4 + 2)) = some (.int .i64 q.lo) ∧ w.cell? (a.add (i * 4 + 3)) = some (.int .i64 q.hi) ∧
      (Lit.int .i64 q.kind).wf = true ∧ (Lit.int .i64 q.lo).wf = true ∧ (Lit.int .i64 q.hi).wf = true := by
    intro i hi
    obtain ⟨cs', h1, h2⟩ := hx i hi
    rw [ce] at h1
    obtain ⟨_, hlen, hcell⟩ := World.cells?_some h1
    obtain ⟨xs, kk, hk, hxy, _, hxl, hf⟩ := DataW.trod_struct he h2
    match xs, hxl, cs', hlen with
    | [y0, y1, y2, y3], _, [v0, v1, v2, v3], _ =>
      have g0 := hf 0 f0 rfl
      have g1 := hf 1 f1 rfl
      have g2 := hf 2 f2 rfl
      have g3 := hf 3 f3 rfl
      simp [o0, o1, o2, o3, c0, c1, c2, c3] at g0 g1 g2 g3
      have e0 := hcell 0 (by omega)
      have e1 := hcell 1 (by omega)
      have e2 := hcell 2 (by omega)
      have e3 := hcell 3 (by omega)
      rw [add_add] at e0 e1 e2 e3
      obtain ⟨z0, a0, b0, w0⟩ := DataW.trod_int u0 g0
      obtain ⟨z1, a1, b1⟩ := DataW.trod_bool u1 g1
      obtain ⟨z2, a2, b2, w2⟩ := DataW.trod_int u2 g2
      obtain ⟨z3, a3, b3, w3⟩ := DataW.trod_int u3 g3
      simp at a0 a1 a2 a3
      subst a0 a1 a2 a3
      exact ⟨⟨z0, z1, z2, z3⟩, by simpa using e0, by simpa using e1, by simpa using e2, by simpa using e3, w0, w2, w3⟩
  obtain ⟨T, hT⟩ := choose_lt each
  exact ⟨T, hl, hm, fun i hi => ⟨a, rfl, hT i (by omega)⟩⟩
end
end Go.Proofs.Ytbaciaolhfmfkaa.Op
