/- This text walks the law of every call over two sets of bramble/bramblelaw02.Tick: the fixed fact and the play. -/
import Derived.Test.YtbaciaolhfmfkaaLqi8
import Derived.Test.YtbaciaolhfmfkaaAw
namespace Go.Proofs.Ytbaciaolhfmfkaa.Si8
open Go.RowKit Go.Proofs.YtbaciaolhfmfkaaW.PrintWords Go.Proofs.Ytbaciaolhfmfkaa.Mp Go.Proofs.Ytbaciaolhfmfkaa.Ow Go.Proofs.Ytbaciaolhfmfkaa.Sp Go.Proofs.Ytbaciaolhfmfkaa.Rf Go.Proofs.Ytbaciaolhfmfkaa.Op Go.Proofs.Ytbaciaolhfmfkaa.PSpansBytes
set_option linter.unusedVariables false
set_option maxRecDepth 100000
theorem Scr.stay {w w2 : World} {A : Option Addr} {len : Nat} {T : Nat → Rec} (h : Scr w A len T) (k : Kp w w2 (fun _ => False)) : Scr w2 A len T := fun i hi => by
  obtain ⟨a, h0, h1, h2, h3, h4, h5⟩ := h i hi
  exact ⟨a, h0, cell_kp h1 k (fun h => h), cell_kp h2 k (fun h => h), cell_kp h3 k (fun h => h), cell_kp h4 k (fun h => h), h5⟩
set_option maxHeartbeats 4000000 in
theorem law_calls (A : Option Addr) (len cap : Nat) (T : Nat → Rec) (w : World) (hs : Scr w A len T) (hl : len ≤ 9223372036854775807) :
    Calls Try.prog 7 #[.slice A len cap] w fun e w' => e = .returned (.bool true) ∧ Kp w w' (fun _ => False) := by
  have HS := Aside0.mk hs
  clear hs
  go_enter Try.func7, Try.ntmps7
  go_wp2_with fail
  refine (Aw.awake_calls w).mono ?_
  rintro e w1 ⟨rfl, k1⟩
  have HP := Aside0.mk (plays_calls A len cap T w1 (HS.out.stay k1) hl)
  have K1 := Aside0.mk k1
  clear k1 HS
  go_wp2_with fail
  refine HP.out.mono ?_
  rintro e w2 ⟨rfl, k2⟩
  have K2 := Aside0.mk (K1.out.then_ k2 (fun _ h => .inl h))
  clear k2 HP K1
  go_wp2_with fail
  go_ret
  exact ⟨rfl, K2.out⟩
theorem law_row (A : Option Addr) (len cap : Nat) (T : Nat → Rec) (w : World) (hlc : len ≤ cap) (hcm : cap ≤ maxLen)
    (hT : ∀ i, i < len → ∃ a, A = some a ∧ w.cell? (a.add (i * 4)) = some (.int .i64 (T i).kind) ∧ w.cell? (a.add (i * 4 + 1)) = some (.bool (T i).second) ∧ w.cell? (a.add (i * 4 + 2)) = some (.int .i64 (T i).lo) ∧ w.cell? (a.add (i * 4 + 3)) = some (.int .i64 (T i).hi) ∧ (Lit.int .i64 (T i).kind).wf = true ∧ (Lit.int .i64 (T i).lo).wf = true ∧ (Lit.int .i64 (T i).hi).wf = true) :
    Calls Try.prog 7 #[.slice A len cap] w fun e w' => e = .returned (.bool true) ∧ Below w.heap.size w w' := by
  unfold maxLen at hcm
  refine (law_calls A len cap T w (fun i hi => ?_) (by omega)).mono fun _ _ h => ⟨h.1, h.2.to_below⟩
  obtain ⟨a, h1, h2, h3, h4, h5, h6, h7, h8⟩ := hT i hi
  have hmin : IntKind.i64.min = -9223372036854775808 := rfl
  have hmax : IntKind.i64.max = 9223372036854775807 := rfl
  simp only [Lit.wf, Bool.and_eq_true, decide_eq_true_eq] at h7 h8
  exact ⟨a, h1, h2, h3, h4, h5, by omega, by omega⟩
end Go.Proofs.Ytbaciaolhfmfkaa.Si8
