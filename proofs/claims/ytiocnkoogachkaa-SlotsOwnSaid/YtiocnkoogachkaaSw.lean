/- This text proves what the law's fixed fact of a table of texts answers, as a walk. -/
import Derived.Test.YtiocnkoogachkaaTds
namespace Go.Proofs.Ytiocnkoogachkaa.Sw
open Go.RowKit Go.Proofs.YtiocnkoogachkaaW.PrintWords Go.Proofs.Ytiocnkoogachkaa.Mp Go.Proofs.Ytiocnkoogachkaa.Hp Go.Proofs.Ytiocnkoogachkaa.Tg
set_option linter.unusedVariables false
abbrev sa : ByteArray := ⟨#[97]⟩
abbrev sb : ByteArray := ⟨#[98]⟩
abbrev sc : ByteArray := ⟨#[99]⟩
abbrev P1 : List (It ByteArray Bool) := [⟨sa, true, 0⟩]
abbrev P2 : List (It ByteArray Bool) := [⟨sa, true, 0⟩, ⟨sb, true, 0⟩]
abbrev P3 : List (It ByteArray Bool) := [⟨Ts.Z, false, 0⟩, ⟨sb, true, 0⟩]
abbrev P4 : List (It ByteArray Bool) := [⟨Ts.Z, false, 0⟩, ⟨sb, true, 0⟩, ⟨sc, true, 0⟩]
theorem next4 {r : Int} (h : IsNext P4 3 r) : r = 3 := by
  rcases h with ⟨q, p, rfl, h1, h2, h3, h4⟩ | ⟨rfl, h⟩
  · have := (List.getElem?_eq_some_iff.1 h2).1
    simp at this
    omega
  · have := h 2 ⟨sc, true, 0⟩ (by omega) rfl
    cases this
set_option maxHeartbeats 2000000 in
set_option maxRecDepth 100000 in
theorem awake_calls (w : World) : Calls Try.prog 8 #[] w fun e w' => e = .returned (.bool true) ∧ Kp w w' (fun _ => False) := by
  go_enter Try.func8, Try.ntmps8
  go_wp2_with fail
  refine (Ts.new_calls 3 w).mono ?_
  rintro e w1 ⟨tb, S1, rfl, h1⟩
  have H1 : Aside0 (St Ts.PF w w1 tb (w.heap.size + 1) w.heap.size Ts.LV Ts.Z 3 [] 3 0 S1) := ⟨h1⟩
  clear h1
  go_wp2_with fail
  refine (Ts.put_ok H1.out (j := 0) rfl (by omega) (fun p hp => by simp at hp) (by omega) sa).mono ?_
  rintro e w2 ⟨rfl, S2, h2, _⟩
  have H2 : Aside0 (St Ts.PF w w2 tb (w.heap.size + 1) w.heap.size Ts.LV Ts.Z 3 P1 3 1 S2) := ⟨h2⟩
  clear h2 H1
  go_wp2_with fail
  refine (Ts.put_ok H2.out (j := 1) rfl (by omega) (fun p hp => by simp at hp) (by omega) sb).mono ?_
  rintro e w3 ⟨rfl, S3, h3, _⟩
  have H3 : Aside0 (St Ts.PF w w3 tb (w.heap.size + 1) w.heap.size Ts.LV Ts.Z 3 P2 3 2 S3) := ⟨h3⟩
  clear h3 H2
  go_wp2_with fail
  refine (Ts.drop_ok H3.out (j := 0) (p := ⟨sa, true, 0⟩) rfl rfl (by omega)).mono ?_
  rintro e w4 ⟨rfl, S4, h4, _⟩
  have H4 : Aside0 (St Ts.PF w w4 tb (w.heap.size + 1) w.heap.size Ts.LV Ts.Z 3 P3 4 1 S4) := ⟨h4⟩
  clear h4 H3
  go_wp2_with fail
  refine (Ts.free_st H4.out).mono ?_
  rintro e w5 ⟨rfl, S5, h5, _⟩
  have H5 := Aside0.mk h5
  have hf : (freeOf P3 3 : Int) = 1 := rfl
  rw [hf]
  clear h5 H4 hf
  go_wp2_with fail
  refine (Ts.putAt_ok H5.out (j := 2) (by omega) (fun p hp => by simp at hp) (by omega) sc).mono ?_
  rintro e w6 ⟨rfl, S6, h6, _⟩
  have H6 : Aside0 (St Ts.PF w w6 tb (w.heap.size + 1) w.heap.size Ts.LV Ts.Z 3 P4 4 2 S6) := ⟨h6⟩
  clear h6 H5
  go_wp2_with fail
  refine (Ts.len_st H6.out).mono ?_
  rintro e w7 ⟨rfl, rfl⟩
  go_wp2_with fail
  refine (Ts.next_st H6.out 3).mono ?_
  rintro e w7 ⟨r, rfl, hr, rfl⟩
  obtain rfl := next4 hr
  go_wp2
  go_ret
  exact ⟨rfl, H6.out.kept⟩
end Go.Proofs.Ytiocnkoogachkaa.Sw
