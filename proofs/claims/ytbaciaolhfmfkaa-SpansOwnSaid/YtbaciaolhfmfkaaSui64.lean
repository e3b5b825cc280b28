/- This text walks the program's sets of whole numbers (int): looking a place up. -/
import Derived.Test.YtbaciaolhfmfkaaSp
import Derived.Test.YtbaciaolhfmfkaaOw
namespace Go.Proofs.Ytbaciaolhfmfkaa.Si64
open Go.RowKit Go.Proofs.YtbaciaolhfmfkaaW.PrintWords Go.Proofs.Ytbaciaolhfmfkaa.Mp Go.Proofs.Ytbaciaolhfmfkaa.Ow Go.Proofs.Ytbaciaolhfmfkaa.Sp
set_option linter.unusedVariables false

def flat (R : List Run) : List Value := R.flatMap (fun r => [.int .i64 r.1, .int .i64 r.2])
theorem flat_nil : flat [] = [] := rfl
theorem flat_cons (r : Run) (R : List Run) : flat (r :: R) = .int .i64 r.1 :: .int .i64 r.2 :: flat R := rfl
theorem flat_app (R S : List Run) : flat (R ++ S) = flat R ++ flat S := by simp [flat]
theorem flat_len : ∀ R : List Run, (flat R).length = R.length * 2
  | [] => rfl
  | r :: R => by rw [flat_cons, List.length_cons, List.length_cons, flat_len R, List.length_cons]; omega
theorem flat_at : ∀ (R : List Run) (i : Nat) (r : Run), R[i]? = some r → (flat R)[i * 2]? = some (.int .i64 r.1) ∧ (flat R)[i * 2 + 1]? = some (.int .i64 r.2)
  | [], i, r, h => by cases h
  | s :: R, 0, r, h => by
    obtain rfl : s = r := by simpa using h
    exact ⟨rfl, rfl⟩
  | s :: R, i + 1, r, h => by
    have := flat_at R i r (by simpa using h)
    rw [flat_cons, show (i + 1) * 2 = i * 2 + 1 + 1 by omega]
    exact this
abbrev tMin : Int := -9223372036854775808
abbrev tMax : Int := 9223372036854775807
/-- A set lies in memory. -/
structure SetAt (w : World) (base p : Nat) (sv : Value) (R : List Run) : Prop where
  head : w.heap[p]? = some (.cells #[sv] 90 (0, 0))
  own : w.ownsRow base 91 2 sv R.length (flat R)
  good : Sp.Good tMin tMax R
  pbase : base ≤ p
theorem SetAt.kept {w w2 : World} {base p : Nat} {sv : Value} {R : List Run} {S : Nat → Prop} (h : SetAt w base p sv R) (k : Kp w w2 S) (hp : ¬ S p) (hs : ∀ b, sv.ownBlock = some b → ¬ S b) : SetAt w2 base p sv R :=
  ⟨blk_kp h.head k hp, row_kp h.own k hs, h.good, h.pbase⟩
theorem SetAt.stay {w w2 : World} {base p : Nat} {sv : Value} {R : List Run} (h : SetAt w base p sv R) (k : Kp w w2 (fun _ => False)) : SetAt w2 base p sv R := h.kept k (fun h => h) (fun _ _ h => h)
theorem own_slice {w : World} {base e s n : Nat} {sv : Value} {xs : List Value} (h : w.ownsRow base e s sv n xs) : ∃ a cap, sv = .slice a n cap ∧ (0 < n → ∃ g, a = some ⟨g, 0, none⟩) := by
  rcases h.2 with ⟨hv, h⟩ | ⟨g, cap, _, h, _⟩
  · exact ⟨none, 0, by rw [hv, h], fun h2 => by omega⟩
  · exact ⟨_, _, h, fun _ => ⟨g, rfl⟩⟩
/-- A run's two cells. -/
theorem run_cells {w : World} {base n : Nat} {a : Option Addr} {cap : Nat} {R : List Run} (h : w.ownsRow base 91 2 (.slice a n cap) R.length (flat R)) {i : Nat} {r : Run} (hr : R[i]? = some r) :
    ∃ g, a = some ⟨g, 0, none⟩ ∧ w.cell? ⟨g, i * 2, none⟩ = some (.int .i64 r.1) ∧ w.cell? ⟨g, i * 2 + 1, none⟩ = some (.int .i64 r.2) := by
  have hi := (List.getElem?_eq_some_iff.1 hr).1
  obtain ⟨a', cap', he, hg⟩ := own_slice h
  obtain ⟨g, hg⟩ := hg (by omega)
  cases he
  subst hg
  obtain ⟨h1, h2⟩ := flat_at R i r hr
  exact ⟨g, rfl, own_cell h _ _ h1, own_cell h _ _ h2⟩
/-- What the search looks with. -/
theorem look_calls {w : World} {base p A B : Nat} {sv : Value} {R : List Run} (h : SetAt w base p sv R) (x : Int) (ha : w.heap[A]? = some (.cells #[.pointer (some ⟨p, 0, none⟩)] 52 (0, 0))) (hb : w.heap[B]? = some (.cells #[.int .i64 x] 3 (0, 0))) {i : Nat} (hi : i < R.length) (hl : R.length ≤ 4611686018427387904) :
    Calls Try.prog 76 #[.int .i64 i, .pointer (some ⟨A, 0, none⟩), .pointer (some ⟨B, 0, none⟩)] w fun e w' => e = .returned (.bool (decide (x ≤ (R.getD i (0, 0)).2))) ∧ Kp w w' (fun _ => False) := by
  obtain ⟨a, cap, rfl, hg⟩ := own_slice h.own
  have hr : R[i]? = some (R.getD i (0, 0)) := by rw [List.getElem?_eq_getElem hi]; simp [hi]
  obtain ⟨g, rfl, c1, c2⟩ := run_cells h.own hr
  have a0 : w.cell? ⟨A, 0, none⟩ = some (.pointer (some ⟨p, 0, none⟩)) := (blk_cell ha 0).trans rfl
  have b0 : w.cell? ⟨B, 0, none⟩ = some (.int .i64 x) := (blk_cell hb 0).trans rfl
  have p0 : w.cell? ⟨p, 0, none⟩ = some (.slice (some ⟨g, 0, none⟩) R.length cap) := (blk_cell h.head 0).trans rfl
  generalize R.getD i (0, 0) = r at *
  generalize R.length = n at *
  have hi0 : (0 : Int) ≤ (i : Int) := by omega
  have hi1 : (i : Int) < (n : Int) := by omega
  clear h hr ha hb hg c1
  go_enter Try.func76, Try.ntmps76
  go_wp2
  go_quiet (fail)
  go_wp2
  go_ret
  exact ⟨rfl, Kp.drewN (Kp.refl _ _) _⟩
/-- The library's search, over a test that turns once from no to yes. -/
theorem search_calls (n j : Nat) (t : Nat → Bool) (hn : n ≤ 4611686018427387904) (hj : j ≤ n) (h1 : ∀ i, i < j → t i = false) (h2 : ∀ i, j ≤ i → i < n → t i = true) (w0 : World) (cap : Array Value)
    (hc : ∀ (i : Nat) (w : World), i < n → Kp w0 w (fun _ => False) → Calls Try.prog 76 (#[.int .i64 i] ++ cap) w fun e w' => e = .returned (.bool (t i)) ∧ Kp w w' (fun _ => False)) :
    Calls Try.prog 66 #[.int .i64 n, .func (.func 76) #[] cap] w0 fun e w' => e = .returned (.int .i64 j) ∧ Kp w0 w' (fun _ => False) := by
  have H1 := Aside0.mk h1
  have H2 := Aside0.mk h2
  have HC := Aside0.mk hc
  clear h1 h2 hc
  go_enter Try.func66, Try.ntmps66
  go_wp2_with fail
  go_loopw [5, 6] (fun lv hv wr => ∃ lo hi : Nat, lv = .int .i64 lo ∧ hv = .int .i64 hi ∧ lo ≤ j ∧ j ≤ hi ∧ hi ≤ n ∧ Aside0 (Kp w0 wr (fun _ => False))) (fun lv hv _ => (intOf hv).toNat - (intOf lv).toNat)
  case atStart => exact ⟨0, n, rfl, rfl, by omega, hj, by omega, ⟨Kp.refl _ _⟩⟩
  case round =>
    obtain ⟨lo, hi, rfl, rfl, hlo, hhi, hin, HK⟩ := hrel
    by_cases hlt : lo < hi
    · go_wp2_with fail
      obtain ⟨m, hm⟩ : ∃ m : Nat, m = (lo + hi) / 2 := ⟨_, rfl⟩
      have hmm : ((lo : Int) + (hi : Int)) / 2 = (m : Int) := by omega
      have hm1 : lo ≤ m ∧ m < hi := by omega
      obtain ⟨hm1, hm2⟩ := hm1
      rw [hmm]
      clear hm hmm
      refine (HC.out m wr (by omega) HK.out).mono ?_
      rintro e w2 ⟨rfl, K2⟩
      have HK2 := Aside0.mk (HK.out.then_ K2 (fun _ h => .inl h))
      clear K2 HK
      cases ht : t m with
      | true =>
        have hjm : j ≤ m := Nat.le_of_not_lt fun h => by have := H1.out m h; rw [ht] at this; cases this
        clear ht
        go_wp2
        go_roundw
        case measure => simp [intOf]; omega
        case rel => exact ⟨lo, m, rfl, rfl, hlo, hjm, by omega, HK2⟩
      | false =>
        have hjm : m < j := Nat.lt_of_not_le fun h => by have := H2.out m h (by omega); rw [ht] at this; cases this
        clear ht
        go_wp2
        go_roundw
        case measure => simp [intOf]; omega
        case rel => exact ⟨m + 1, hi, by go_num, rfl, by omega, hhi, hin, HK2⟩
    · obtain rfl : lo = j := by omega
      go_wp2
      go_ret
      exact ⟨rfl, HK.out⟩
theorem from_calls {w : World} {base p : Nat} {sv : Value} {R : List Run} (h : SetAt w base p sv R) (x : Int) (hl : R.length ≤ 4611686018427387904) :
    Calls Try.prog 65 #[.pointer (some ⟨p, 0, none⟩), .int .i64 x] w fun e w' => e = .returned (.int .i64 (fromI R x : Nat)) ∧ Kp w w' (fun _ => False) := by
  obtain ⟨a, cap, hsv, _⟩ := own_slice h.own
  have p0 : w.cell? ⟨p, 0, none⟩ = some (.slice a R.length cap) := (blk_cell h.head 0).trans (by rw [hsv]; rfl)
  obtain ⟨W, hW⟩ : ∃ W, (w.alloc (.cells #[.pointer (some ⟨p, 0, none⟩)] 52)).alloc (.cells #[.int .i64 x] 3) = W := ⟨_, rfl⟩
  have kW : Kp w W (fun _ => False) := by rw [← hW]; exact ((Kp.refl _ _).alloc _).alloc _
  have hA : W.heap[w.heap.size]? = some (.cells #[.pointer (some ⟨p, 0, none⟩)] 52 (0, 0)) := by
    rw [← hW]; exact ((MapKept.heap_alloc _ _).2 _ (by simp)).trans (heap_alloc_new w _)
  have hB : W.heap[w.heap.size + 1]? = some (.cells #[.int .i64 x] 3 (0, 0)) := by
    have := heap_alloc_new (w.alloc (.cells #[.pointer (some ⟨p, 0, none⟩)] 52)) (.cells #[.int .i64 x] 3)
    rw [show (w.alloc (.cells #[.pointer (some ⟨p, 0, none⟩)] 52)).heap.size = w.heap.size + 1 by simp] at this
    rw [← hW]; exact this
  have H0 := Aside0.mk (search_calls R.length (fromI R x) (fun i => decide (x ≤ (R.getD i (0, 0)).2)) hl (fromI_le R x)
    (fun i hi => by
      have hlt := Nat.lt_of_lt_of_le hi (fromI_le R x)
      have hr : R[i]? = some (R.getD i (0, 0)) := by rw [List.getElem?_eq_getElem hlt]; simp [hlt]
      exact decide_eq_false (fun hx => by have := (from_iff h.good x hr).1 hx; omega))
    (fun i hi hlt => by
      have hr : R[i]? = some (R.getD i (0, 0)) := by rw [List.getElem?_eq_getElem hlt]; simp [hlt]
      exact decide_eq_true ((from_iff h.good x hr).2 hi)) W #[.pointer (some ⟨w.heap.size, 0, none⟩), .pointer (some ⟨w.heap.size + 1, 0, none⟩)]
    (fun i w1 hi k => look_calls (h.stay (kW.then_ k (fun _ h => .inl h))) x (blk_kp hA k (fun h => h)) (blk_kp hB k (fun h => h)) hi hl))
  have HK := Aside0.mk kW
  have p1 := cell_kp p0 kW (fun h => h)
  have a1 : W.cell? ⟨w.heap.size, 0, none⟩ = some (.pointer (some ⟨p, 0, none⟩)) := (blk_cell hA 0).trans rfl
  generalize fromI R x = j at *
  generalize R.length = n at *
  clear h hA hB hsv kW
  go_enter Try.func65, Try.ntmps65
  go_wp2_with fail
  refine H0.out.mono ?_
  rintro e w2 ⟨rfl, k2⟩
  go_wp2
  go_ret
  exact ⟨rfl, HK.out.then_ k2 (fun _ h => .inl h)⟩
end Go.Proofs.Ytbaciaolhfmfkaa.Si64
