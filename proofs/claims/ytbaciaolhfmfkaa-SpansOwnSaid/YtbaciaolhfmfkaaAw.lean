/- This text walks the law's fixed fact of sets of whole numbers. -/
import Derived.Test.YtbaciaolhfmfkaaSzi64
namespace Go.Proofs.Ytbaciaolhfmfkaa.Aw
open Go.RowKit Go.Proofs.YtbaciaolhfmfkaaW.PrintWords Go.Proofs.Ytbaciaolhfmfkaa.Mp Go.Proofs.Ytbaciaolhfmfkaa.Ow Go.Proofs.Ytbaciaolhfmfkaa.Sp Go.Proofs.Ytbaciaolhfmfkaa.Si64
set_option linter.unusedVariables false
set_option maxRecDepth 100000
set_option maxHeartbeats 1000000 in
theorem awake_calls (w : World) : Calls Try.prog 10 #[] w fun e w' => e = .returned (.bool true) ∧ Kp w w' (fun _ => False) := by
  go_enter Try.func10, Try.ntmps10
  go_wp2_with fail
  refine (new_calls w).mono ?_
  rintro e w1 ⟨rfl, h1, k1⟩
  have H1 := Aside0.mk h1
  have K1 := Aside0.mk k1
  clear h1 k1
  have z : ∀ w2, Kp w w2 (fun _ => False) → w.heap.size ≤ w2.heap.size := fun w2 k => k.size
  have Z := Aside0.mk z
  clear z
  go_wp2_with fail
  refine (add_new H1.out 3 5 (by decide) (by decide) (by simp) K1.out.size (by decide)).mono ?_
  rintro e w2 ⟨rfl, sv2, h2, k2, _⟩
  rw [show addR [] (3, 5) = [(3, 5)] from by decide] at h2
  have H2 := Aside0.mk h2
  have K2 := Aside0.mk (K1.out.then_ k2 (fun k hk => .inr (by omega)))
  clear h2 k2 H1 K1
  go_wp2_with fail
  refine (add_new H2.out 6 6 (by decide) (by decide) (by simp) K2.out.size (by decide)).mono ?_
  rintro e w3 ⟨rfl, sv3, h3, k3, _⟩
  rw [show addR [(3, 5)] (6, 6) = [(3, 6)] from by decide] at h3
  have H3 := Aside0.mk h3
  have K3 := Aside0.mk (K2.out.then_ k3 (fun k hk => .inr (by omega)))
  clear h3 k3 H2 K2
  go_wp2_with fail
  refine (add_calls H3.out 4 6 (by decide) (by decide) (by simp) K3.out.size).mono ?_
  rw [show holdsB [(3, 6)] 4 6 = true from by decide]
  rintro e w4 ⟨rfl, sv4, h4, k4, _⟩
  simp only [if_true] at h4
  have H4 := Aside0.mk h4
  have K4 := Aside0.mk (K3.out.then_ k4 (fun k hk => .inr (by omega)))
  clear h4 k4 H3 K3
  simp only [Bool.not_true]
  go_wp2_with fail
  refine (len_calls H4.out).mono ?_
  rintro e w5 ⟨rfl, rfl⟩
  simp only [List.length_cons, List.length_nil]
  go_wp2_with fail
  refine (cut_new H4.out 4 4 (by decide) (by decide) (by simp) K4.out.size (by decide)).mono ?_
  rintro e w5 ⟨rfl, sv5, h5, k5, _⟩
  rw [show cutR [(3, 6)] 4 4 = [(3, 3), (5, 6)] from by decide] at h5
  have H5 := Aside0.mk h5
  have K5 := Aside0.mk (K4.out.then_ k5 (fun k hk => .inr (by omega)))
  clear h5 k5 H4 K4
  go_wp2_with fail
  refine (next_calls H5.out 4 (by simp)).mono ?_
  rw [show nextI [(3, 3), (5, 6)] 4 = some 5 from by decide]
  unfold nextA
  rintro e w6 ⟨rfl, k6⟩
  have H6 := Aside0.mk (H5.out.stay k6)
  have K6 := Aside0.mk (K5.out.then_ k6 (fun k hk => .inl hk))
  clear k6 H5 K5
  simp only [Option.getD_some, Option.isSome_some]
  go_wp2_with fail
  refine (len_calls H6.out).mono ?_
  rintro e w7 ⟨rfl, rfl⟩
  simp only [List.length_cons, List.length_nil]
  go_wp2_with fail
  refine (has_calls H6.out 3 (by simp)).mono ?_
  rw [show holdsB [(3, 3), (5, 6)] 3 3 = true from by decide]
  rintro e w7 ⟨rfl, k7⟩
  have H7 := Aside0.mk (H6.out.stay k7)
  have K7 := Aside0.mk (K6.out.then_ k7 (fun k hk => .inl hk))
  clear k7 H6 K6
  go_wp2_with fail
  refine (has_calls H7.out 4 (by simp)).mono ?_
  rw [show holdsB [(3, 3), (5, 6)] 4 4 = false from by decide]
  rintro e w8 ⟨rfl, k8⟩
  have K8 := Aside0.mk (K7.out.then_ k8 (fun k hk => .inl hk))
  clear k8 H7 K7
  go_wp2
  go_ret
  exact ⟨rfl, K8.out⟩
end Go.Proofs.Ytbaciaolhfmfkaa.Aw
