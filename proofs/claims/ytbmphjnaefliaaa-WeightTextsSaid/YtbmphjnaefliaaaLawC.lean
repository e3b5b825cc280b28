/- This text turns the laws' walks over words that are natural numbers into walks over the integers that a uint32 holds. -/
import Derived.Test.YtbmphjnaefliaaaLawB
namespace Go.Proofs.Ytbmphjnaefliaaa.LawC
open Go.RowKit
theorem u32_nat {a : Int} (h : (Lit.int .u32 a).wf = true) : ∃ n : Nat, a = n ∧ n < 4294967296 := by
  have hmin : IntKind.u32.min = 0 := rfl
  have hmax : IntKind.u32.max = 4294967295 := rfl
  simp only [Lit.wf, Bool.and_eq_true, decide_eq_true_eq] at h
  exact ⟨a.toNat, by omega, by omega⟩
theorem admits (a : Int) (w : World) (h : (Lit.int .u32 a).wf = true) : Calls Try.prog 3 #[.int .u32 a] w fun e w' => e = .returned (.bool true) ∧ Below w.heap.size w w' := by
  obtain ⟨n, rfl, hn⟩ := u32_nat h
  exact LawA.admits_calls n hn w
theorem adds (a b : Int) (w : World) (h : (Lit.int .u32 a).wf = true) (k : (Lit.int .u32 b).wf = true) : Calls Try.prog 4 #[.int .u32 a, .int .u32 b] w fun e w' => e = .returned (.bool true) ∧ Below w.heap.size w w' := by
  obtain ⟨n, rfl, hn⟩ := u32_nat h
  obtain ⟨m, rfl, hm⟩ := u32_nat k
  exact LawB.adds_calls n m hn hm w
theorem order (a b : Int) (w : World) (h : (Lit.int .u32 a).wf = true) (k : (Lit.int .u32 b).wf = true) : Calls Try.prog 5 #[.int .u32 a, .int .u32 b] w fun e w' => e = .returned (.bool true) ∧ Below w.heap.size w w' := by
  obtain ⟨n, rfl, hn⟩ := u32_nat h
  obtain ⟨m, rfl, hm⟩ := u32_nat k
  exact LawB.order_calls n m hn hm w
end Go.Proofs.Ytbmphjnaefliaaa.LawC
