/- This text says what a heap of keys lies as in memory, and what an order that is handed to it may answer. -/
import Derived.Test.YtiocnkoogachkaaMp
import Derived.BigRegion
import Derived.BigQuiet
import Derived.Deep.QuietTactic
import Derived.Deep.DeepMust
import Derived.StillTailTactics
namespace Go.Proofs.Ytiocnkoogachkaa.Hp
open Go.RowKit Go.Proofs.YtiocnkoogachkaaW Go.Proofs.YtiocnkoogachkaaW.PrintWords Go.Proofs.Ytiocnkoogachkaa.Mp
set_option linter.unusedVariables false

/-- A key with its rank and its coming. -/
structure It (κ ρ : Type) where
  key : κ
  rank : ρ
  came : Int

/-- An order that is handed in: A says what it may answer; I holds where it is asked; it writes the blocks S alone. -/
structure LessOk (P : Program) {ρ : Type} (rv : ρ → Value) (A : ρ → ρ → Bool → Prop) (lv : Value) (I : World → Prop) (S : Nat → Prop) (base : Nat) : Prop where
  calls : ∃ F fn cap, lv = .func (.func F) #[] cap ∧ P.funcs[F]? = some fn ∧ (fn.name == "runtime.NumGoroutine") = false ∧ fn.body.isSome = true ∧
    ∀ a b w, I w → base ≤ w.heap.size → Calls P F (#[rv a, rv b] ++ cap) w fun e w' => ∃ r, e = .returned (.bool r) ∧ A a b r ∧ I w' ∧ Kp w w' S
  stable : ∀ w w', I w → (∀ k, k < base → w'.heap[k]? = w.heap[k]?) → I w'
  low : ∀ k, S k → k < base

/-- What 'ahead' may answer of two items. -/
def Ahead {κ ρ : Type} (A : ρ → ρ → Bool → Prop) (x y : It κ ρ) (r : Bool) : Prop :=
  ∃ r1, A x.rank y.rank r1 ∧ ((r1 = true ∧ r = true) ∨ (r1 = false ∧ ∃ r2, A y.rank x.rank r2 ∧ ((r2 = true ∧ r = false) ∨ (r2 = false ∧ r = decide (x.came < y.came)))))

section
variable {P : Program} {ops : Array Oper} {Q : Exit → Act → World → Prop}
/-- A call of a function value. -/
theorem goesV_ {rest : List Oper} {oi : Oper} {a : Act} {w : World} (hg : oi.guard = none) {F : FuncId} {fn : Func} (x : Operand) (xs : Array Operand) (ts : Array TypeId) (hop : oi.op = .call { callee := .value x, args := xs, argTypes := ts })
    (cap : Array Value) (hx : a.eval x = .func (.func F) #[] cap) (hf : P.funcs[F]? = some fn) (hname : (fn.name == "runtime.NumGoroutine") = false) (hb : fn.body.isSome = true) (args : Array Value) (hargs : xs.map a.eval = args)
    (h : Calls P F (args ++ cap) w fun e w' => ∃ v, e = .returned v ∧ wpList P ops Q rest (a.put oi.dst v) w') : wpList P ops Q (oi :: rest) a w := by
  refine wpList_plain hg fun K hK => ?_
  have he := PrintLast.enters_ hf hname hb (args ++ cap) w
  have hrun : (execOp a.eval oi).run P w = .ok (.enter F (args ++ cap)) w := by
    unfold execOp
    simp [hop, resolve, Deferred.ofValue, invoke, hx, hargs, he]
  unfold Oper.wp
  rw [hrun, Oper.upon_enter]
  refine h.mono fun e w'' hh => ?_
  obtain ⟨v, rfl, hk⟩ := hh
  exact hK _ _ hk
end

theorem cell_alloc {W : World} {o : Obj} {a : Addr} {v : Value} (h : W.cell? a = some v) : (W.alloc o).cell? a = some v := by
  obtain ⟨ab, ao, ap⟩ := a
  have hb := World.block_lt_of_cell? W _ h
  simp only [World.cell?, World.alloc] at h ⊢
  rw [Array.getElem?_push_lt hb]
  rw [Array.getElem?_eq_getElem hb] at h
  exact h
theorem two_fst (w : World) (a b : Array Value) (t u : TypeId) (k : Nat) : (((w.alloc (.cells a t)).alloc (.cells b u)).drew).cell? ⟨w.heap.size, k, none⟩ = a[k]? := by
  have h : (((w.alloc (.cells a t)).alloc (.cells b u)).drew).heap[w.heap.size]? = some (.cells a t (0, 0)) := by
    show ((w.heap.push (.cells a t)).push (.cells b u))[w.heap.size]? = _
    rw [Array.getElem?_push_lt (by simp), Array.getElem_push_eq]
  exact blk_cell h k
theorem two_snd (w : World) (a b : Array Value) (t u : TypeId) (k : Nat) : (((w.alloc (.cells a t)).alloc (.cells b u)).drew).cell? ⟨w.heap.size + 1, k, none⟩ = b[k]? := by
  have h : (((w.alloc (.cells a t)).alloc (.cells b u)).drew).heap[w.heap.size + 1]? = some (.cells b u (0, 0)) := by
    show ((w.heap.push (.cells a t)).push (.cells b u))[w.heap.size + 1]? = _
    rw [show w.heap.size + 1 = (w.heap.push (.cells a t)).size by simp, Array.getElem?_push_size]
  exact blk_cell h k
end Go.Proofs.Ytiocnkoogachkaa.Hp
