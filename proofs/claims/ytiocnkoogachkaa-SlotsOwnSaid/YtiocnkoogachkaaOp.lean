/- This text opens a slice of structs of three whole numbers that came in. -/
import Derived.Deep.SlicePairs
import Derived.WalkKit
namespace Go.Proofs.Ytiocnkoogachkaa.Op
open Go.ChangeShapes Go.WideShapes Go.Deep
section
variable {H : Type} {enc : TypeId × Value → H} {P : Program} {w : World} {base : Nat} {held : Bool}
theorem open_tris {t e : TypeId} {f0 f1 f2 : Field} {k : IntKind} {fuel : Nat} {A : Option Addr} {len cap : Nat} {x : DataW H × List MemPlace} (ht : P.underlying t = some (.slice e)) (he : P.underlying e = some (.struct #[f0, f1, f2]))
    (ce : P.cellsOf e = 3) (o0 : f0.offset = 0) (o1 : f1.offset = 1) (o2 : f2.offset = 2) (c0 : P.cellsOf f0.type = 1) (c1 : P.cellsOf f1.type = 1) (c2 : P.cellsOf f2.type = 1)
    (u0 : P.underlying f0.type = some (.int k)) (u1 : P.underlying f1.type = some (.int k)) (u2 : P.underlying f2.type = some (.int k))
    (h : DataW.trod enc P w base (fun _ => true) held fuel t [.slice A len cap] = some x) :
    ∃ T : Nat → Int × Int × Int, len ≤ cap ∧ cap ≤ maxLen ∧ ∀ i, i < len → ∃ a, A = some a ∧ w.cell? (a.add (i * 3)) = some (.int k (T i).1) ∧ w.cell? (a.add (i * 3 + 1)) = some (.int k (T i).2.1) ∧ w.cell? (a.add (i * 3 + 2)) = some (.int k (T i).2.2) ∧
      (Lit.int k (T i).1).wf = true ∧ (Lit.int k (T i).2.1).wf = true ∧ (Lit.int k (T i).2.2).wf = true := by
  rcases open_slice ht h with ⟨h0, _⟩ | ⟨a, len', cap', m, n, D, Pl, hcs, hb, hl, hm, hmm, rfl, hx⟩
  · simp at h0
    obtain ⟨rfl, rfl, rfl⟩ := h0
    exact ⟨fun _ => (0, 0, 0), Nat.le_refl _, by simp, fun i hi => absurd hi (by omega)⟩
  simp at hcs
  obtain ⟨rfl, rfl, rfl⟩ := hcs
  simp only [if_true] at hmm
  subst hmm
  have each : ∀ i, i < m → ∃ q : Int × Int × Int, w.cell? (a.add (i * 3)) = some (.int k q.1) ∧ w.cell? (a.add (i * 3 + 1)) = some (.int k q.2.1) ∧ w.cell? (a.add (i * 3 + 2)) = some (.int k q.2.2) ∧
      (Lit.int k q.1).wf = true ∧ (Lit.int k q.2.1).wf = true ∧ (Lit.int k q.2.2).wf = true := by
    intro i hi
    obtain ⟨cs', h1, h2⟩ := hx i hi
    rw [ce] at h1
    obtain ⟨_, hlen, hcell⟩ := World.cells?_some h1
    obtain ⟨xs, kk, hk, hxy, _, hxl, hf⟩ := DataW.trod_struct he h2
    match xs, hxl, cs', hlen with
    | [y0, y1, y2], _, [v0, v1, v2], _ =>
      have g0 := hf 0 f0 rfl
      have g1 := hf 1 f1 rfl
      have g2 := hf 2 f2 rfl
      simp [o0, o1, o2, c0, c1, c2] at g0 g1 g2
      have e0 := hcell 0 (by omega)
      have e1 := hcell 1 (by omega)
      have e2 := hcell 2 (by omega)
      rw [add_add] at e0 e1 e2
      obtain ⟨z0, a0, b0, w0⟩ := DataW.trod_int u0 g0
      obtain ⟨z1, a1, b1, w1⟩ := DataW.trod_int u1 g1
      obtain ⟨z2, a2, b2, w2⟩ := DataW.trod_int u2 g2
      simp at a0 a1 a2
      subst a0 a1 a2
      exact ⟨(z0, z1, z2), by simpa using e0, by simpa using e1, by simpa using e2, w0, w1, w2⟩
  obtain ⟨T, hT⟩ := choose_lt each
  exact ⟨T, hl, hm, fun i hi => ⟨a, rfl, hT i (by omega)⟩⟩
end
end Go.Proofs.Ytiocnkoogachkaa.Op
