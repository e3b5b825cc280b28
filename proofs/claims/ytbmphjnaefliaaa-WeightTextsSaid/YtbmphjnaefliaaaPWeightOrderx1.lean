-- PRINTED BY print.sh 35421559b90ae4d0a3588c463048766b98c2df88dd9212a6774a882060cdf62d: not written by this session
import Derived.Test.YtbmphjnaefliaaaPWeightOrderx0
namespace Go.Proofs.Ytbmphjnaefliaaa.PWeightOrder
open Go.RowKit Go.Proofs.YtbmphjnaefliaaaW.PrintWords Go.Proofs.YtbmphjnaefliaaaW.PrintLast Go.Proofs.YtbmphjnaefliaaaW.PrintMore
attribute [local go_sem] max2_int min2_int max_two min_two max_three min_three max_four min_four   -- for this text's walks alone
set_option linter.unusedVariables false
set_option linter.unusedSimpArgs false

-- NOT PRINTED: function 24 (math_Float32bits)

-- NOT PRINTED: function 15 (weight_Cost)

-- NOT PRINTED: function 30 (math_Float32frombits)

-- NOT PRINTED: function 11 (weight_Admit)

-- NOT PRINTED: function 16 (weight_Bits)

-- NOT PRINTED: function 36 (math_Float64frombits)

-- NOT PRINTED: function 35 (math_Inf)

-- NOT PRINTED: function 31 (weight_counts)

-- NOT PRINTED: function 18 (weight_Add)

-- NOT PRINTED: function 26 (weight_Text)

-- NOT PRINTED: function 10 (bramblelaw01_awake)

-- NOT PRINTED: function 14 (bramblelaw01_Float)

-- NOT PRINTED: function 20 (weight_Before)

/-! ### brambleref01_Nan: function 25 -/
def brambleref01_Nan.f (a0 : Int) : Option (Bool) := some (decide ((Int.tmod a0 2147483648) > 2139095040))
set_option maxHeartbeats 8000000 in
set_option maxRecDepth 100000 in
theorem brambleref01_Nan.calls (a0 : Int) (r : Bool) (w : World) (h : brambleref01_Nan.f a0 = some r) :
    Calls Try.prog 25 #[.int .u32 a0] w fun e w' => e = .returned (.bool r) ∧ Drawn0 w w' := by
  have H : (some (decide ((Int.tmod a0 2147483648) > 2139095040))) = some r := h
  clear h
  obtain rfl := Option.some.inj H
  go_enter Try.func25, Try.ntmps25
  go_wp2
  go_ret
  exact ⟨by first | rfl | (simp; done) | (simp [*]; done), by repeat (first | exact Drawn0.refl _ | apply Drawn0.step)⟩

/-! ### brambleref01_place: function 34 -/
def brambleref01_place.f (a0 : Int) : Option (Int) := if a0 ≥ 2147483648 then (some (-((a0 - 2147483648) % 4294967296))) else (some (wrap64 (a0)))
set_option maxHeartbeats 8000000 in
set_option maxRecDepth 100000 in
theorem brambleref01_place.calls (a0 : Int) (r : Int) (w : World) (h : brambleref01_place.f a0 = some r) :
    Calls Try.prog 34 #[.int .u32 a0] w fun e w' => e = .returned (.int .i64 r) ∧ Drawn0 w w' := by
  have H : (if a0 ≥ 2147483648 then (some (-((a0 - 2147483648) % 4294967296))) else (some (wrap64 (a0)))) = some r := h
  clear h
  by_cases c2 : a0 ≥ 2147483648
  · rw [if_pos c2] at H
    have c2b0 : decide (2147483648 ≤ a0) = true := decide_eq_true c2
    clear c2
    obtain rfl := Option.some.inj H
    go_enter Try.func34, Try.ntmps34
    go_wp2
    go_ret
    exact ⟨by first | rfl | (simp; done) | (simp [*]; done), by repeat (first | exact Drawn0.refl _ | apply Drawn0.step)⟩
  · rw [if_neg c2] at H
    have c2b0 : decide (2147483648 ≤ a0) = false := decide_eq_false c2
    clear c2
    obtain rfl := Option.some.inj H
    go_enter Try.func34, Try.ntmps34
    go_wp2
    go_ret
    exact ⟨by first | rfl | (simp; done) | (simp [*]; done), by repeat (first | exact Drawn0.refl _ | apply Drawn0.step)⟩

/-! ### brambleref01_Before: function 21 -/
def brambleref01_Before.j0 : Nat → Int → Int → Bool → Option (Bool)
  | 0, _, _, _ => none
  | k + 1, x0, x1, x10 => if x10 = true then (some false) else ((brambleref01_place.f x0).bind fun t103 => ((brambleref01_place.f x1).bind fun t104 => (some (decide (t103 < t104)))))
def brambleref01_Before.f (k : Nat) (a0 : Int) (a1 : Int) : Option (Bool) := (brambleref01_Nan.f a0).bind fun t101 => (if t101 = true then (brambleref01_Before.j0 k a0 a1 true) else ((brambleref01_Nan.f a1).bind fun t102 => (brambleref01_Before.j0 k a0 a1 t102)))
theorem brambleref01_Before.mono_l : ∀ k, (∀ y0 y1 y2, LeO (brambleref01_Before.j0 k y0 y1 y2) (brambleref01_Before.j0 (k + 1) y0 y1 y2))
  | 0 => fun _ _ _ r h => by simp [brambleref01_Before.j0] at h
  | k + 1 => by
    have ih0 := brambleref01_Before.mono_l k
    · intro y0 y1 y2
      unfold brambleref01_Before.j0
      repeat' first
      | (with_reducible exact ih0 _ _ _)
      | (with_reducible exact LeO.refl _)
      | (with_reducible exact LeO.none _)
      | (with_reducible refine LeO.ite ?_ ?_)
      | (with_reducible refine LeO.bind ?_ (fun _ => ?_))
      | exact ih0 _ _ _
      | exact LeO.none _
      | refine LeO.ite ?_ ?_
      | refine LeO.bind ?_ (fun _ => ?_)
theorem brambleref01_Before.mono : ∀ a0 a1 k, LeO (brambleref01_Before.f k a0 a1) (brambleref01_Before.f (k + 1) a0 a1) := by
  intro a0 a1 k
  have ih0 := brambleref01_Before.mono_l k
  unfold brambleref01_Before.f
  repeat' first
      | (with_reducible exact ih0 _ _ _)
      | (with_reducible exact LeO.refl _)
      | (with_reducible exact LeO.none _)
      | (with_reducible refine LeO.ite ?_ ?_)
      | (with_reducible refine LeO.bind ?_ (fun _ => ?_))
      | exact ih0 _ _ _
      | exact LeO.none _
      | refine LeO.ite ?_ ?_
      | refine LeO.bind ?_ (fun _ => ?_)
set_option maxHeartbeats 8000000 in
set_option maxRecDepth 100000 in
theorem brambleref01_Before.calls (k : Nat) (a0 : Int) (a1 : Int) (r : Bool) (w : World) (h : brambleref01_Before.f k a0 a1 = some r) :
    Calls Try.prog 21 #[.int .u32 a0, .int .u32 a1] w fun e w' => e = .returned (.bool r) ∧ Drawn0 w w' := by
  have H : ((brambleref01_Nan.f a0).bind fun t101 => (if t101 = true then (brambleref01_Before.j0 k a0 a1 true) else ((brambleref01_Nan.f a1).bind fun t102 => (brambleref01_Before.j0 k a0 a1 t102)))) = some r := h
  clear h
  have HC3 := Aside0.mk H
  clear H
  go_enter Try.func21, Try.ntmps21
  go_upto_region 1 with (fail)
  go_cut [10] (fun v10 wc => ∃ (kq : Nat) (x10_2 : Bool), v10 = .bool x10_2 ∧ Aside0 (brambleref01_Before.j0 kq a0 a1 x10_2 = some r) ∧ Aside0 (kq ≤ k) ∧ Drawn0 w wc)
  case first =>
    have H := HC3.out
    clear HC3
    replace H := Option.bind_eq_some_iff.mp H
    obtain ⟨t101, A40, H⟩ := H
    replace H : (if t101 = true then (brambleref01_Before.j0 k a0 a1 true) else ((brambleref01_Nan.f a1).bind fun t102 => (brambleref01_Before.j0 k a0 a1 t102))) = some r := H
    have A4 := Aside0.mk A40
    clear A40
    by_cases c5 : t101 = true
    · subst c5
      have H1 : (brambleref01_Before.j0 k a0 a1 true) = some r := by rw [if_pos rfl] at H; exact H
      clear H
      have H := H1
      clear H1
      have H' := Aside0.mk H
      clear H
      go_wp2_with (first | ((with_reducible refine gate_callee (f := 25) rfl ?_); refine goesL_ (some 6) rfl rfl Try.func25 (by kernel_rfl) rfl #[.int .u32 a0] rfl (by (try simp only [List.map_toArray, List.map_cons, List.map_nil]); first | done | rfl | (simp only [List.length_drop, List.length_take]; rfl)) ?_; (with_reducible refine (brambleref01_Nan.calls a0 true _ A4.out).mono ?_); rintro e w' ⟨rfl, ⟨nd, rfl⟩⟩; refine ⟨_, rfl, ?_⟩))
      go_meet
      case rel => exact ⟨_, (true), (by first | rfl | (simp; done) | (simp [*]; done)), H', ⟨by first | omega | exact Nat.le_refl _⟩, by repeat (first | exact Drawn0.refl _ | apply Drawn0.step)⟩
    · replace c5 := Bool.eq_false_iff.mpr c5
      subst c5
      have H1 : ((brambleref01_Nan.f a1).bind fun t102 => (brambleref01_Before.j0 k a0 a1 t102)) = some r := by rw [if_neg (show ¬ (false = true) by decide)] at H; exact H
      clear H
      have H := H1
      clear H1
      replace H := Option.bind_eq_some_iff.mp H
      obtain ⟨t102, A60, H⟩ := H
      replace H : (brambleref01_Before.j0 k a0 a1 t102) = some r := H
      have A6 := Aside0.mk A60
      clear A60
      have H' := Aside0.mk H
      clear H
      go_wp2_with (first | ((with_reducible refine gate_callee (f := 25) rfl ?_); refine goesL_ (some 6) rfl rfl Try.func25 (by kernel_rfl) rfl #[.int .u32 a0] rfl (by (try simp only [List.map_toArray, List.map_cons, List.map_nil]); first | done | rfl | (simp only [List.length_drop, List.length_take]; rfl)) ?_; (with_reducible refine (brambleref01_Nan.calls a0 false _ A4.out).mono ?_); rintro e w' ⟨rfl, ⟨nd, rfl⟩⟩; refine ⟨_, rfl, ?_⟩) | (go_at_call 25; (with_reducible refine (brambleref01_Nan.calls a1 t102 _ A6.out).mono ?_); rintro e w' ⟨rfl, ⟨nd, rfl⟩⟩))
      go_meet
      case rel => exact ⟨_, (t102), (by first | rfl | (simp; done) | (simp [*]; done)), H', ⟨by first | omega | exact Nat.le_refl _⟩, by repeat (first | exact Drawn0.refl _ | apply Drawn0.step)⟩
  case rest =>
    clear HC3
    try clear c2
    try clear p2
    try clear c5
    obtain ⟨kq, x10_2, rfl, HA, HJ2, ⟨mc2, rfl⟩⟩ := hcut
    cases kq with
    | zero => exact absurd HA.out (by simp [brambleref01_Before.j0])
    | succ kj2 =>
      have H := HA.out
      clear HA
      simp only [brambleref01_Before.j0] at H
      by_cases c7 : x10_2 = true
      · subst c7
        have H1 : (some false) = some r := by rw [if_pos rfl] at H; exact H
        clear H
        have H := H1
        clear H1
        obtain rfl := Option.some.inj H
        go_wp2
        go_ret
        exact ⟨by first | rfl | (simp; done) | (simp [*]; done), by repeat (first | exact Drawn0.refl _ | apply Drawn0.step)⟩
      · replace c7 := Bool.eq_false_iff.mpr c7
        subst c7
        have H1 : ((brambleref01_place.f a0).bind fun t103 => ((brambleref01_place.f a1).bind fun t104 => (some (decide (t103 < t104))))) = some r := by rw [if_neg (show ¬ (false = true) by decide)] at H; exact H
        clear H
        have H := H1
        clear H1
        replace H := Option.bind_eq_some_iff.mp H
        obtain ⟨t103, A80, H⟩ := H
        replace H : ((brambleref01_place.f a1).bind fun t104 => (some (decide (t103 < t104)))) = some r := H
        have A8 := Aside0.mk A80
        clear A80
        replace H := Option.bind_eq_some_iff.mp H
        obtain ⟨t104, A90, H⟩ := H
        replace H : (some (decide (t103 < t104))) = some r := H
        have A9 := Aside0.mk A90
        clear A90
        obtain rfl := Option.some.inj H
        go_wp2_with (first | ((with_reducible refine gate_callee (f := 34) rfl ?_); refine goesL_ (some 12) rfl rfl Try.func34 (by kernel_rfl) rfl #[.int .u32 a0] rfl (by (try simp only [List.map_toArray, List.map_cons, List.map_nil]); first | done | rfl | (simp only [List.length_drop, List.length_take]; rfl)) ?_; (with_reducible refine (brambleref01_place.calls a0 t103 _ A8.out).mono ?_); rintro e w' ⟨rfl, ⟨nd, rfl⟩⟩; refine ⟨_, rfl, ?_⟩) | ((with_reducible refine gate_callee (f := 34) rfl ?_); refine goesL_ (some 14) rfl rfl Try.func34 (by kernel_rfl) rfl #[.int .u32 a1] rfl (by (try simp only [List.map_toArray, List.map_cons, List.map_nil]); first | done | rfl | (simp only [List.length_drop, List.length_take]; rfl)) ?_; (with_reducible refine (brambleref01_place.calls a1 t104 _ A9.out).mono ?_); rintro e w' ⟨rfl, ⟨nd, rfl⟩⟩; refine ⟨_, rfl, ?_⟩))
        go_ret
        exact ⟨by first | rfl | (simp; done) | (simp [*]; done), by repeat (first | exact Drawn0.refl _ | apply Drawn0.step)⟩

-- NOT PRINTED: function 5 (bramblelaw01_WeightOrder)

end Go.Proofs.Ytbmphjnaefliaaa.PWeightOrder
