/- This text turns a list of words held as integers into the same list held as natural numbers. -/
import Derived.Test.YtbmphjnaefliaaaLawE
namespace Go.Proofs.Ytbmphjnaefliaaa.LawF
open Go.RowKit Go.Proofs.YtbmphjnaefliaaaW.PrintWords Go.Proofs.Ytbmphjnaefliaaa.LawE
/-- the integers of a list as natural numbers -/
def nats (l : List Int) : List Nat := l.map Int.toNat
theorem nats_length (l : List Int) : (nats l).length = l.length := by simp [nats]
theorem nats_lt (l : List Int) (h : ∀ n ∈ l, (Lit.int .u32 n).wf = true) : ∀ x ∈ nats l, x < 4294967296 := by
  intro x hx
  obtain ⟨n, hn, rfl⟩ := List.mem_map.mp hx
  obtain ⟨m, rfl, hm⟩ := LawC.u32_nat (h n hn)
  simpa using hm
theorem nats_C {w : World} {A : Option Addr} (l : List Int) (hr : Kd.C (Kd.int .u32) w A l.length l) (h : ∀ n ∈ l, (Lit.int .u32 n).wf = true) : wk.C w A (nats l).length (nats l) := by
  have hlen := hr.2.1
  have hR := Kd.reads_of_C (enc := fun n : Int => Value.int .u32 n) (d := (0 : Int)) (h1 := fun _ => rfl) hr
  refine Kd.C_of_reads (d := (0 : Nat)) (h1 := fun _ => rfl) ⟨rfl, by rw [nats_length]; exact hlen, fun hp => ?_⟩
  rw [nats_length] at hp
  obtain ⟨ad, e, _⟩ := hR.at_ 0 (by omega) (by omega)
  refine ⟨ad, e, fun j hj => ?_⟩
  rw [nats_length] at hj
  obtain ⟨ad2, e2, hc⟩ := hR.at_ (j : Int) (by omega) (by omega)
  rw [e] at e2
  obtain rfl : ad = ad2 := by simpa using e2
  rw [show rdOf (0 : Int) l j = l[j] from by simp [rdOf, hj], Int.toNat_natCast] at hc
  rw [hc]
  obtain ⟨m, hm, _⟩ := LawC.u32_nat (h l[j] (List.getElem_mem _))
  simp [nats, hj, hm]
theorem folds (A : Option Addr) (c : Nat) (l : List Int) (w : World) (hr : Kd.C (Kd.int .u32) w A l.length l) (_ : l.length ≤ c) (h : ∀ n ∈ l, (Lit.int .u32 n).wf = true) (y : l.length * 4 ≤ 140737488351232) :
    Calls Try.prog 7 #[.slice A l.length c] w fun e w' => e = .returned (.bool true) ∧ Below w.heap.size w w' := by
  have k := folds_calls A c (nats l) w (nats_C l hr h) (nats_lt l h) (by rw [nats_length]; exact y)
  rwa [nats_length] at k
end Go.Proofs.Ytbmphjnaefliaaa.LawF
