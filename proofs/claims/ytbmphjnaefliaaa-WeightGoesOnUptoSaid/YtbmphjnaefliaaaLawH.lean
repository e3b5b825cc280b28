/- This text turns the walk of WeightGoesOn over naturals into one over the integers of the two lists. -/
import Derived.Test.YtbmphjnaefliaaaLawG
namespace Go.Proofs.Ytbmphjnaefliaaa.LawH
open Go.RowKit Go.Proofs.YtbmphjnaefliaaaW.PrintWords Go.Proofs.Ytbmphjnaefliaaa.LawE Go.Proofs.Ytbmphjnaefliaaa.LawF
theorem goes (A : Option Addr) (c : Nat) (l : List Int) (B : Option Addr) (d : Nat) (m : List Int) (w : World) (hr : Kd.C (Kd.int .u32) w A l.length l) (_ : l.length ≤ c) (h : ∀ n ∈ l, (Lit.int .u32 n).wf = true) (_ : l.length * 4 ≤ 140737488351232) (hr2 : Kd.C (Kd.int .u32) w B m.length m) (_ : m.length ≤ d) (h2 : ∀ n ∈ m, (Lit.int .u32 n).wf = true) (_ : m.length * 4 ≤ 140737488351232) (hsz : l.length + m.length ≤ 1048576) :
    Calls Try.prog 8 #[.slice A l.length c, .slice B m.length d] w fun e w' => e = .returned (.bool true) ∧ Below w.heap.size w w' := by
  have k := LawG.goes_calls A c (nats l) B d (nats m) w (nats_C l hr h) (nats_C m hr2 h2) (nats_lt l h) (nats_lt m h2) (by rw [nats_length, nats_length]; exact Nat.le_trans hsz (by decide))
  rwa [nats_length, nats_length] at k
end Go.Proofs.Ytbmphjnaefliaaa.LawH
