/- This text proves what the test of a witness answers: slices.ContainsFunc over a witness's edges and good, as walks, without conditions but that the list reads. -/
import Derived.Test.YtfgoangcckiffaaPWitnessEncodesx
namespace Go.Proofs.Ytfgoangcckiffaa.Good
open Go.RowKit Go.Proofs.YtfgoangcckiffaaW.PrintWords Go.Proofs.YtfgoangcckiffaaW.PrintLast Go.Proofs.YtfgoangcckiffaaW.PrintMore
set_option linter.unusedVariables false

def badE (e : Int) : Bool := decide (e < 1) || decide (e > 1024)

theorem bad_calls (e : Int) (w : World) : Calls Try.prog 22 #[.int .i64 e] w fun e' w' => e' = .returned (.bool (badE e)) ∧ w' = w := by
  unfold badE
  by_cases h1 : e < 1
  · have hb : decide (e < 1) = true := by simpa using h1
    rw [hb]
    go_enter Try.func22, Try.ntmps22
    go_wp2
    go_ret
    exact ⟨by simp, rfl⟩
  · have hb : decide (e < 1) = false := by simpa using h1
    rw [hb]
    go_enter Try.func22, Try.ntmps22
    go_wp2
    go_ret
    exact ⟨by simp, rfl⟩

/-- where the first bad one stands; -1: none -/
def idxBad : List Int → Int → Int
  | [], _ => -1
  | x :: r, i => if badE x = true then i else idxBad r (i + 1)

theorem idxBad_lo (l : List Int) (i : Int) (h : 0 ≤ i) : -1 ≤ idxBad l i := by
  induction l generalizing i with
  | nil => simp [idxBad]
  | cons x r ih => unfold idxBad; split
                   · omega
                   · exact ih _ (by omega)

theorem idxBad_yes {l : List Int} {k : Nat} (h : k < l.length) (hb : badE l[k] = true) (i : Int) : idxBad (l.drop k) i = i := by
  rw [List.drop_eq_getElem_cons h]; simp [idxBad, hb]
theorem idxBad_no {l : List Int} {k : Nat} (h : k < l.length) (hb : ¬ badE l[k] = true) (i : Int) : idxBad (l.drop k) i = idxBad (l.drop (k + 1)) (i + 1) := by
  rw [List.drop_eq_getElem_cons h]; simp [idxBad, hb]

theorem idx_calls (A : Option Addr) (c : Nat) (l : List Int) (w : World) (hr : Kd.C (Kd.int .i64) w A l.length l) :
    Calls Try.prog 25 #[.slice A l.length c, .func (.func 22) #[] #[]] w fun e w' => e = .returned (.int .i64 (idxBad l 0)) ∧ w' = w := by
  have hlen := hr.2.1
  have HR := Aside0.mk hr
  clear hr
  go_enter Try.func25, Try.ntmps25
  go_wp2
  go_loop [8] (fun v => ∃ k : Nat, k ≤ l.length ∧ v = .int .i64 k ∧ Aside0 (idxBad l 0 = idxBad (l.drop k) k)) (fun v => l.length - (intOf v).toNat)
  case atStart => exact ⟨0, Nat.zero_le _, rfl, ⟨by simp⟩⟩
  case round =>
    obtain ⟨k, hk, rfl, H⟩ := hrel
    by_cases hlt : k < l.length
    · obtain ⟨ad, rfl, hc⟩ := Kd.at_int HR.out (k : Int) (by omega) (by omega)
      rw [show rd l k = l[k] from by simp [rd, hlt], Int.toNat_natCast] at hc
      by_cases hb : badE l[k] = true
      · have H2 := Aside0.mk (H.out.trans (idxBad_yes hlt hb _))
        clear H
        generalize hx : l[k] = x at hc hb
        clear hx
        go_wp2_with (go_at_call 22; refine (bad_calls _ _).mono ?_; rintro e w' ⟨rfl, rfl⟩)
        go_ret
        exact ⟨by rw [H2.out]; rfl, rfl⟩
      · have H2 := Aside0.mk (H.out.trans (idxBad_no hlt hb _))
        clear H
        generalize hx : l[k] = x at hc hb
        clear hx
        go_wp2_with (go_at_call 22; refine (bad_calls _ _).mono ?_; rintro e w' ⟨rfl, rfl⟩)
        go_round
        case rel => exact ⟨k + 1, hlt, by go_num, H2⟩
        case measure => simp [intOf]; omega
    · have H2 := Aside0.mk (H.out.trans (show idxBad (l.drop k) k = -1 by rw [List.drop_eq_nil_of_le (by omega)]; rfl))
      clear H
      go_wp2
      go_ret
      exact ⟨by rw [H2.out]; rfl, rfl⟩

theorem has_calls (A : Option Addr) (c : Nat) (l : List Int) (w : World) (hr : Kd.C (Kd.int .i64) w A l.length l) :
    Calls Try.prog 23 #[.slice A l.length c, .func (.func 22) #[] #[]] w fun e w' => e = .returned (.bool (decide (0 ≤ idxBad l 0))) ∧ w' = w := by
  have HR := Aside0.mk hr
  clear hr
  go_enter Try.func23, Try.ntmps23
  go_wp2_with (go_at_call 25; refine (idx_calls _ _ _ _ HR.out).mono ?_; rintro e w' ⟨rfl, rfl⟩)
  go_ret
  exact ⟨rfl, rfl⟩

/-- what good answers -/
def goodV (f t : Int) (l : List Int) : Int :=
  if (l.length : Int) > 1024 then 3 else if f < 0 ∨ f > 2147483647 ∨ t < 0 ∨ t > 2147483647 ∨ 0 ≤ idxBad l 0 then 1 else 0

theorem good_calls (f t b : Int) (A : Option Addr) (c : Nat) (l : List Int) (w : World) (hr : Kd.C (Kd.int .i64) w A l.length l) :
    Calls Try.prog 15 #[.agg #[.int .i64 f, .int .i64 t, .int .u32 b, .slice A l.length c]] w fun e w' => e = .returned (.int .i64 (goodV f t l)) ∧ Below w.heap.size w w' := by
  have HR := Aside0.mk hr
  clear hr
  by_cases h1 : (l.length : Int) > 1024
  · have hg : goodV f t l = 3 := by simp [goodV, h1]
    rw [hg]
    clear hg
    go_enter Try.func15, Try.ntmps15
    go_wp2
    go_ret
    exact ⟨rfl, (Below.refl _ _).alloc (Nat.le_refl _) _⟩
  · by_cases h2 : f < 0
    · have hg : goodV f t l = 1 := by simp [goodV, h1, h2]
      rw [hg]
      clear hg
      go_enter Try.func15, Try.ntmps15
      go_wp2
      go_ret
      exact ⟨rfl, (Below.refl _ _).alloc (Nat.le_refl _) _⟩
    by_cases h3 : f > 2147483647
    · have hg : goodV f t l = 1 := by simp [goodV, h1, h3]
      rw [hg]
      clear hg
      go_enter Try.func15, Try.ntmps15
      go_wp2
      go_ret
      exact ⟨rfl, (Below.refl _ _).alloc (Nat.le_refl _) _⟩
    by_cases h4 : t < 0
    · have hg : goodV f t l = 1 := by simp [goodV, h1, h4]
      rw [hg]
      clear hg
      go_enter Try.func15, Try.ntmps15
      go_wp2
      go_ret
      exact ⟨rfl, (Below.refl _ _).alloc (Nat.le_refl _) _⟩
    by_cases h5 : t > 2147483647
    · have hg : goodV f t l = 1 := by simp [goodV, h1, h5]
      rw [hg]
      clear hg
      go_enter Try.func15, Try.ntmps15
      go_wp2
      go_ret
      exact ⟨rfl, (Below.refl _ _).alloc (Nat.le_refl _) _⟩
    by_cases h6 : 0 ≤ idxBad l 0
    · have hg : goodV f t l = 1 := by simp [goodV, h1, h6]
      rw [hg]
      clear hg
      go_enter Try.func15, Try.ntmps15
      go_wp2_with (go_at_call 23; refine (has_calls _ _ _ _ (Kd.C_below HR.out ((Below.refl _ _).alloc (Nat.le_refl _) _))).mono ?_; rintro e w' ⟨rfl, rfl⟩)
      go_ret
      exact ⟨rfl, (Below.refl _ _).alloc (Nat.le_refl _) _⟩
    · have hg : goodV f t l = 0 := by simp only [goodV, if_neg h1]; rw [if_neg (by omega)]
      rw [hg]
      clear hg
      go_enter Try.func15, Try.ntmps15
      go_wp2_with (go_at_call 23; refine (has_calls _ _ _ _ (Kd.C_below HR.out ((Below.refl _ _).alloc (Nat.le_refl _) _))).mono ?_; rintro e w' ⟨rfl, rfl⟩)
      go_ret
      exact ⟨rfl, (Below.refl _ _).alloc (Nat.le_refl _) _⟩
end Go.Proofs.Ytfgoangcckiffaa.Good
