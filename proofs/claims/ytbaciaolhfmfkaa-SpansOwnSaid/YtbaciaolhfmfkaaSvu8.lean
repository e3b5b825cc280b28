/- This text walks the program's sets of whole numbers (uint8): the calls that ask. -/
import Derived.Test.YtbaciaolhfmfkaaSuu8
namespace Go.Proofs.Ytbaciaolhfmfkaa.Su8
open Go.RowKit Go.Proofs.YtbaciaolhfmfkaaW.PrintWords Go.Proofs.Ytbaciaolhfmfkaa.Mp Go.Proofs.Ytbaciaolhfmfkaa.Ow Go.Proofs.Ytbaciaolhfmfkaa.Sp
set_option linter.unusedVariables false
set_option linter.unusedSimpArgs false
theorem holds_calls {w : World} {base p : Nat} {sv : Value} {R : List Run} (h : SetAt w base p sv R) (lo hi : Int) (hl : R.length ≤ 4611686018427387904) :
    Calls Try.prog 14 #[.pointer (some ⟨p, 0, none⟩), .int .u8 lo, .int .u8 hi] w fun e w' => e = .returned (.bool (holdsB R lo hi)) ∧ Kp w w' (fun _ => False) := by
  by_cases hlt : hi < lo
  · have e1 : holdsB R lo hi = true := by unfold holdsB; simp [hlt]
    rw [e1]
    clear h e1
    go_enter Try.func14, Try.ntmps14
    go_wp2
    go_ret
    exact ⟨rfl, Kp.refl _ _⟩
  · have H0 := Aside0.mk (from_calls h lo hl)
    have H := Aside0.mk h
    have hj := fromI_le R lo
    cases hr : R[fromI R lo]? with
    | none =>
      have e1 : holdsB R lo hi = false := by unfold holdsB; rw [hr]; simp; omega
      have hge : R.length ≤ fromI R lo := List.getElem?_eq_none_iff.1 hr
      rw [e1]
      obtain ⟨a, cap, hsv, _⟩ := own_slice h.own
      have HS := Aside0.mk hsv
      generalize fromI R lo = j at *
      clear h e1 hr hsv
      go_enter Try.func14, Try.ntmps14
      go_wp2_with fail
      refine H0.out.mono ?_
      rintro e w2 ⟨rfl, k2⟩
      have p1 : w2.cell? ⟨p, 0, none⟩ = some (.slice a R.length cap) := (blk_cell (H.out.stay k2).head 0).trans (by rw [HS.out]; rfl)
      generalize R.length = n at *
      have HK := Aside0.mk k2
      clear k2
      go_wp2
      go_ret
      exact ⟨rfl, HK.out⟩
    | some r =>
      have e1 : holdsB R lo hi = (decide (r.1 ≤ lo) && decide (hi ≤ r.2)) := by unfold holdsB; rw [hr]; simp [hlt]
      have hj2 := (List.getElem?_eq_some_iff.1 hr).1
      have HR := Aside0.mk hr
      rw [e1]
      obtain ⟨a, cap, hsv, _⟩ := own_slice h.own
      subst hsv
      generalize fromI R lo = j at *
      clear h e1 hr hj
      go_enter Try.func14, Try.ntmps14
      go_wp2_with fail
      refine H0.out.mono ?_
      rintro e w2 ⟨rfl, k2⟩
      obtain ⟨g, rfl, c1, c2⟩ := run_cells (H.out.stay k2).own HR.out
      have p1 : w2.cell? ⟨p, 0, none⟩ = some (.slice (some ⟨g, 0, none⟩) R.length cap) := (blk_cell (H.out.stay k2).head 0).trans rfl
      have hj0 : (0 : Int) ≤ (j : Int) := by omega
      have hj1 : (j : Int) < (R.length : Int) := by omega
      generalize R.length = n at *
      obtain ⟨r1, r2⟩ := r
      simp only at c1 c2
      have HK := Aside0.mk k2
      clear k2
      by_cases q1 : r1 ≤ lo
      · by_cases q2 : hi ≤ r2
        · go_wp2
          go_ret
          exact ⟨by simp [q1, q2]; try omega, HK.out⟩
        · go_wp2
          go_ret
          exact ⟨by simp [q1, q2]; try omega, HK.out⟩
      · go_wp2
        go_ret
        exact ⟨by simp [q1]; try omega, HK.out⟩
theorem has_calls {w : World} {base p : Nat} {sv : Value} {R : List Run} (h : SetAt w base p sv R) (x : Int) (hl : R.length ≤ 4611686018427387904) :
    Calls Try.prog 13 #[.pointer (some ⟨p, 0, none⟩), .int .u8 x] w fun e w' => e = .returned (.bool (holdsB R x x)) ∧ Kp w w' (fun _ => False) := by
  have H0 := Aside0.mk (holds_calls h x x hl)
  clear h
  go_enter Try.func13, Try.ntmps13
  go_wp2_with fail
  refine H0.out.mono ?_
  rintro e w2 ⟨rfl, k2⟩
  go_wp2
  go_ret
  exact ⟨rfl, k2⟩
/-- What Next answers. -/
def nextA (o : Option Int) : Value := .tuple #[.int .u8 (o.getD 0), .bool o.isSome]
theorem next_calls {w : World} {base p : Nat} {sv : Value} {R : List Run} (h : SetAt w base p sv R) (x : Int) (hl : R.length ≤ 4611686018427387904) :
    Calls Try.prog 12 #[.pointer (some ⟨p, 0, none⟩), .int .u8 x] w fun e w' => e = .returned (nextA (nextI R x)) ∧ Kp w w' (fun _ => False) := by
  have H0 := Aside0.mk (from_calls h x hl)
  have H := Aside0.mk h
  have hj := fromI_le R x
  cases hr : R[fromI R x]? with
  | none =>
    have e1 : nextI R x = none := by unfold nextI; rw [hr]; rfl
    have hge : R.length ≤ fromI R x := List.getElem?_eq_none_iff.1 hr
    have he : fromI R x = R.length := by omega
    rw [e1]
    obtain ⟨a, cap, hsv, _⟩ := own_slice h.own
    have HS := Aside0.mk hsv
    rw [he] at H0
    clear h e1 hr hsv he hge hj
    go_enter Try.func12, Try.ntmps12
    go_wp2_with fail
    refine H0.out.mono ?_
    rintro e w2 ⟨rfl, k2⟩
    have p1 : w2.cell? ⟨p, 0, none⟩ = some (.slice a R.length cap) := (blk_cell (H.out.stay k2).head 0).trans (by rw [HS.out]; rfl)
    generalize R.length = n at *
    have HK := Aside0.mk k2
    clear k2
    go_wp2
    go_ret2
    exact ⟨rfl, HK.out⟩
  | some r =>
    have e1 : nextI R x = some (max x r.1) := by unfold nextI; rw [hr]; rfl
    have hj2 := (List.getElem?_eq_some_iff.1 hr).1
    have HR := Aside0.mk hr
    rw [e1]
    obtain ⟨a, cap, hsv, _⟩ := own_slice h.own
    subst hsv
    generalize fromI R x = j at *
    clear h e1 hr hj
    go_enter Try.func12, Try.ntmps12
    go_wp2_with fail
    refine H0.out.mono ?_
    rintro e w2 ⟨rfl, k2⟩
    obtain ⟨g, rfl, c1, c2⟩ := run_cells (H.out.stay k2).own HR.out
    have p1 : w2.cell? ⟨p, 0, none⟩ = some (.slice (some ⟨g, 0, none⟩) R.length cap) := (blk_cell (H.out.stay k2).head 0).trans rfl
    have hj0 : (0 : Int) ≤ (j : Int) := by omega
    have hj1 : (j : Int) < (R.length : Int) := by omega
    have hj3 : ((j : Int) == (R.length : Int)) = false := by simp; omega
    have hj4 : ¬ (j : Int) = (R.length : Int) := by omega
    generalize R.length = n at *
    obtain ⟨r1, r2⟩ := r
    simp only at c1 c2
    have HK := Aside0.mk k2
    clear k2
    go_wp2
    all_goals go_ret2
    all_goals exact ⟨by unfold nextA; simp; omega, HK.out⟩
theorem meets_calls {w : World} {base p : Nat} {sv : Value} {R : List Run} (h : SetAt w base p sv R) (lo hi : Int) (hl : R.length ≤ 4611686018427387904) :
    Calls Try.prog 15 #[.pointer (some ⟨p, 0, none⟩), .int .u8 lo, .int .u8 hi] w fun e w' => e = .returned (.bool (meetsB R lo hi)) ∧ Kp w w' (fun _ => False) := by
  have H0 := Aside0.mk (next_calls h lo hl)
  clear h
  unfold nextA at H0
  unfold meetsB
  cases hn : nextI R lo with
  | none =>
    rw [hn] at H0
    simp only [Option.getD_none, Option.isSome_none] at H0
    clear hn
    go_enter Try.func15, Try.ntmps15
    go_wp2_with fail
    refine H0.out.mono ?_
    rintro e w2 ⟨rfl, k2⟩
    have HK := Aside0.mk k2
    clear k2
    go_wp2
    go_ret
    exact ⟨rfl, HK.out⟩
  | some y =>
    rw [hn] at H0
    simp only [Option.getD_some, Option.isSome_some] at H0
    clear hn
    go_enter Try.func15, Try.ntmps15
    go_wp2_with fail
    refine H0.out.mono ?_
    rintro e w2 ⟨rfl, k2⟩
    have HK := Aside0.mk k2
    clear k2
    go_wp2
    go_ret
    exact ⟨rfl, HK.out⟩
end Go.Proofs.Ytbaciaolhfmfkaa.Su8
