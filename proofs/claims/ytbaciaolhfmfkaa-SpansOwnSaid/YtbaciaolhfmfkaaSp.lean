/- This text is the plain law of sets of whole numbers told as their longest runs: no program in it. -/
import Derived.KernelRfl
namespace Go.Proofs.Ytbaciaolhfmfkaa.Sp
set_option linter.unusedVariables false
abbrev Run := Int × Int
def mem (R : List Run) (x : Int) : Prop := ∃ r ∈ R, r.1 ≤ x ∧ x ≤ r.2
structure Good (mn mx : Int) (R : List Run) : Prop where
  ok : ∀ r ∈ R, mn ≤ r.1 ∧ r.1 ≤ r.2 ∧ r.2 ≤ mx
  gap : R.Pairwise (fun r s => r.2 + 1 < s.1)
variable {mn mx : Int} {R S : List Run}
theorem mem_nil (x : Int) : ¬ mem [] x := by rintro ⟨r, hr, _⟩; cases hr
theorem mem_cons (r : Run) (R : List Run) (x : Int) : mem (r :: R) x ↔ (r.1 ≤ x ∧ x ≤ r.2) ∨ mem R x := by
  constructor
  · rintro ⟨s, hs, h⟩
    rcases List.mem_cons.1 hs with rfl | hs
    · exact .inl h
    · exact .inr ⟨s, hs, h⟩
  · rintro (h | ⟨s, hs, h⟩)
    · exact ⟨r, List.mem_cons_self, h⟩
    · exact ⟨s, List.mem_cons_of_mem _ hs, h⟩
theorem mem_app (R S : List Run) (x : Int) : mem (R ++ S) x ↔ mem R x ∨ mem S x := by
  constructor
  · rintro ⟨s, hs, h⟩
    rcases List.mem_append.1 hs with hs | hs
    · exact .inl ⟨s, hs, h⟩
    · exact .inr ⟨s, hs, h⟩
  · rintro (⟨s, hs, h⟩ | ⟨s, hs, h⟩)
    · exact ⟨s, List.mem_append_left _ hs, h⟩
    · exact ⟨s, List.mem_append_right _ hs, h⟩
theorem mem_one (r : Run) (x : Int) : mem [r] x ↔ (r.1 ≤ x ∧ x ≤ r.2) := by
  rw [mem_cons]
  exact ⟨fun h => h.elim id (fun h => absurd h (mem_nil x)), .inl⟩
theorem good_nil : Good mn mx [] := ⟨fun r h => (by cases h), List.Pairwise.nil⟩
theorem Good.tail {r : Run} (h : Good mn mx (r :: R)) : Good mn mx R := ⟨fun s hs => h.ok s (List.mem_cons_of_mem _ hs), (List.pairwise_cons.1 h.gap).2⟩
theorem Good.head {r : Run} (h : Good mn mx (r :: R)) : ∀ s ∈ R, r.2 + 1 < s.1 := (List.pairwise_cons.1 h.gap).1
theorem Good.above {r : Run} (h : Good mn mx (r :: R)) {x : Int} (hx : mem R x) : r.2 + 1 < x := by
  obtain ⟨s, hs, h1, _⟩ := hx
  have := h.head s hs
  omega
theorem Good.unique : ∀ {R S : List Run}, Good mn mx R → Good mn mx S → (∀ x, mem R x ↔ mem S x) → R = S
  | [], [], _, _, _ => rfl
  | [], s :: S, _, hS, h => absurd ((h s.1).2 ((mem_cons _ _ _).2 (.inl ⟨Int.le_refl _, (hS.ok s List.mem_cons_self).2.1⟩))) (mem_nil _)
  | r :: R, [], hR, _, h => absurd ((h r.1).1 ((mem_cons _ _ _).2 (.inl ⟨Int.le_refl _, (hR.ok r List.mem_cons_self).2.1⟩))) (mem_nil _)
  | r :: R, s :: S, hR, hS, h => by
    have hr := (hR.ok r List.mem_cons_self).2.1
    have hs := (hS.ok s List.mem_cons_self).2.1
    have e1 : r.1 = s.1 := by
      have a := (mem_cons _ _ _).1 ((h r.1).1 ((mem_cons _ _ _).2 (.inl ⟨Int.le_refl _, hr⟩)))
      have b := (mem_cons _ _ _).1 ((h s.1).2 ((mem_cons _ _ _).2 (.inl ⟨Int.le_refl _, hs⟩)))
      have a' : s.1 ≤ r.1 := a.elim (fun h => h.1) (fun h => by have := hS.above h; omega)
      have b' : r.1 ≤ s.1 := b.elim (fun h => h.1) (fun h => by have := hR.above h; omega)
      omega
    have e2 : r.2 = s.2 := by
      rcases Int.lt_trichotomy r.2 s.2 with hlt | he | hlt
      · exfalso
        have a := (mem_cons _ _ _).1 ((h (r.2 + 1)).2 ((mem_cons _ _ _).2 (.inl ⟨by omega, by omega⟩)))
        rcases a with a | a
        · omega
        · have := hR.above a; omega
      · exact he
      · exfalso
        have a := (mem_cons _ _ _).1 ((h (s.2 + 1)).1 ((mem_cons _ _ _).2 (.inl ⟨by omega, by omega⟩)))
        rcases a with a | a
        · omega
        · have := hS.above a; omega
    have e : r = s := Prod.ext e1 e2
    subst e
    rw [Good.unique hR.tail hS.tail (fun x => ?_)]
    constructor
    · intro hx
      have := hR.above hx
      exact ((mem_cons _ _ _).1 ((h x).1 ((mem_cons _ _ _).2 (.inr hx)))).elim (fun h => by omega) id
    · intro hx
      have := hS.above hx
      exact ((mem_cons _ _ _).1 ((h x).2 ((mem_cons _ _ _).2 (.inr hx)))).elim (fun h => by omega) id

/-- The place of the first run that does not end ahead of x. -/
def fromI (R : List Run) (x : Int) : Nat := R.findIdx (fun r => decide (x ≤ r.2))
theorem fromI_le (R : List Run) (x : Int) : fromI R x ≤ R.length := List.findIdx_le_length
theorem Good.lt (h : Good mn mx R) {i j : Nat} {r s : Run} (hij : i < j) (hi : R[i]? = some r) (hj : R[j]? = some s) : r.2 + 1 < s.1 := by
  obtain ⟨a, rfl⟩ := List.getElem?_eq_some_iff.1 hi
  obtain ⟨b, rfl⟩ := List.getElem?_eq_some_iff.1 hj
  exact List.pairwise_iff_getElem.1 h.gap i j a b hij
theorem from_iff (h : Good mn mx R) (x : Int) {i : Nat} {r : Run} (hi : R[i]? = some r) : x ≤ r.2 ↔ fromI R x ≤ i := by
  obtain ⟨a, rfl⟩ := List.getElem?_eq_some_iff.1 hi
  constructor
  · intro hx
    unfold fromI
    exact Nat.le_of_not_lt fun hlt => by
      have := List.not_of_lt_findIdx hlt
      simp at this
      omega
  · intro hle
    have hlt : fromI R x < R.length := by omega
    have h2 : decide (x ≤ (R[fromI R x]).2) = true := List.findIdx_getElem (w := hlt)
    have h2 := of_decide_eq_true h2
    rcases Nat.lt_or_ge (fromI R x) i with hlt2 | hge
    · have h3 := h.lt hlt2 (List.getElem?_eq_getElem hlt) hi
      have := (h.ok _ (List.getElem_mem a)).2.1
      omega
    · have e : fromI R x = i := by omega
      simpa [e] using h2
theorem from_of (h : Good mn mx R) (x : Int) (j : Nat) (hj : j ≤ R.length) (h1 : ∀ i r, i < j → R[i]? = some r → ¬ x ≤ r.2) (h2 : ∀ i r, j ≤ i → R[i]? = some r → x ≤ r.2) : fromI R x = j := by
  apply Nat.le_antisymm
  · rcases Nat.lt_or_ge j R.length with hlt | hge
    · exact (from_iff h x (List.getElem?_eq_getElem hlt)).1 (h2 j _ (Nat.le_refl _) (List.getElem?_eq_getElem hlt))
    · have := fromI_le R x; omega
  · rcases Nat.lt_or_ge (fromI R x) j with hlt | hge
    · have h3 := List.getElem?_eq_getElem (l := R) (i := fromI R x) (by omega)
      exact absurd ((from_iff h x h3).2 (Nat.le_refl _)) (h1 _ _ hlt h3)
    · exact hge
/-- Are all numbers from lo to hi in it? -/
def holdsB (R : List Run) (lo hi : Int) : Bool := decide (hi < lo) || (match R[fromI R lo]? with | some r => decide (r.1 ≤ lo) && decide (hi ≤ r.2) | none => false)
theorem holdsB_iff (h : Good mn mx R) (lo hi : Int) : holdsB R lo hi = true ↔ ∀ y, lo ≤ y → y ≤ hi → mem R y := by
  unfold holdsB
  by_cases hlt : hi < lo
  · simp only [hlt, decide_true, Bool.true_or, true_iff]
    intro y h1 h2; omega
  · simp only [hlt, decide_false, Bool.false_or]
    constructor
    · intro h1 y hy1 hy2
      cases hr : R[fromI R lo]? with
      | none => rw [hr] at h1; cases h1
      | some r =>
        rw [hr] at h1
        simp at h1
        exact ⟨r, List.mem_of_getElem? hr, by omega, by omega⟩
    · intro h1
      obtain ⟨r, hr, a, b⟩ := h1 lo (by omega) (by omega)
      obtain ⟨i, hi'⟩ := List.getElem?_of_mem hr
      have h2 := (from_iff h lo hi').1 b
      have e : fromI R lo = i := by
        apply Nat.le_antisymm h2
        rcases Nat.lt_or_ge (fromI R lo) i with hlt2 | hge
        · exfalso
          have hlen := (List.getElem?_eq_some_iff.1 hi').1
          have h3 := List.getElem?_eq_getElem (l := R) (i := fromI R lo) (by omega)
          have h4 := (from_iff h lo h3).2 (Nat.le_refl _)
          have h5 := h.lt hlt2 h3 hi'
          omega
        · exact hge
      rw [e, hi']
      simp only [Bool.and_eq_true, decide_eq_true_eq]
      refine ⟨a, ?_⟩
      rcases Int.lt_or_le r.2 hi with hlt2 | hge
      · exfalso
        obtain ⟨s, hs, c, d⟩ := h1 (r.2 + 1) (by omega) (by omega)
        obtain ⟨j, hj⟩ := List.getElem?_of_mem hs
        rcases Nat.lt_trichotomy i j with h6 | h6 | h6
        · have := h.lt h6 hi' hj; omega
        · subst h6; rw [hi'] at hj; cases hj; omega
        · have := h.lt h6 hj hi'; have := (h.ok r hr).2.1; omega
      · exact hge
/-- The least number from x on. -/
def nextI (R : List Run) (x : Int) : Option Int := (R[fromI R x]?).map (fun r => max x r.1)
theorem nextI_some (h : Good mn mx R) {x y : Int} (hy : nextI R x = some y) : mem R y ∧ x ≤ y ∧ ∀ z, mem R z → x ≤ z → y ≤ z := by
  unfold nextI at hy
  cases hr : R[fromI R x]? with
  | none => rw [hr] at hy; cases hy
  | some r =>
    rw [hr] at hy
    have e : max x r.1 = y := by simpa using hy
    have h1 := (from_iff h x hr).2 (Nat.le_refl _)
    have hok := h.ok r (List.mem_of_getElem? hr)
    refine ⟨⟨r, List.mem_of_getElem? hr, by omega, by omega⟩, by omega, ?_⟩
    rintro z ⟨s, hs, a, b⟩ hz
    obtain ⟨j, hj⟩ := List.getElem?_of_mem hs
    have h2 := (from_iff h x hj).1 (by omega)
    rcases Nat.lt_or_eq_of_le h2 with hlt | he
    · have := h.lt hlt hr hj; omega
    · subst he; rw [hr] at hj; cases hj; omega
theorem nextI_none (h : Good mn mx R) {x : Int} (hy : nextI R x = none) : ∀ z, mem R z → ¬ x ≤ z := by
  rintro z ⟨s, hs, a, b⟩ hz
  obtain ⟨j, hj⟩ := List.getElem?_of_mem hs
  have h2 := (from_iff h x hj).1 (by omega)
  have hl := (List.getElem?_eq_some_iff.1 hj).1
  unfold nextI at hy
  rw [List.getElem?_eq_getElem (by omega)] at hy
  cases hy
def meetsB (R : List Run) (lo hi : Int) : Bool := match nextI R lo with | some y => decide (y ≤ hi) | none => false
theorem meetsB_iff (h : Good mn mx R) (lo hi : Int) : meetsB R lo hi = true ↔ ∃ y, lo ≤ y ∧ y ≤ hi ∧ mem R y := by
  unfold meetsB
  cases hn : nextI R lo with
  | none =>
    simp only [Bool.false_eq_true, false_iff]
    rintro ⟨y, h1, h2, h3⟩
    exact nextI_none h hn y h3 h1
  | some y =>
    obtain ⟨h1, h2, h3⟩ := nextI_some h hn
    simp only [decide_eq_true_eq]
    constructor
    · intro hy; exact ⟨y, h2, hy, h1⟩
    · rintro ⟨z, a, b, c⟩
      have := h3 z c a
      omega

/-- One run looked at while (lo, hi) is put in. -/
def stepA (s : List Run × Run × List Run) (r : Run) : List Run × Run × List Run :=
  if r.2 + 1 < s.2.1.1 then (s.1 ++ [r], s.2.1, s.2.2)
  else if s.2.1.2 + 1 < r.1 then (s.1, s.2.1, s.2.2 ++ [r])
  else (s.1, (min s.2.1.1 r.1, max s.2.1.2 r.2), s.2.2)
def addS (R : List Run) (x : Run) : List Run × Run × List Run := R.foldl stepA ([], x, [])
def addR (R : List Run) (x : Run) : List Run := (addS R x).1 ++ (addS R x).2.1 :: (addS R x).2.2
structure AddI (mn mx : Int) (P : List Run) (x0 : Run) (s : List Run × Run × List Run) : Prop where
  mem : ∀ y, mem (s.1 ++ s.2.1 :: s.2.2) y ↔ mem P y ∨ (x0.1 ≤ y ∧ y ≤ x0.2)
  low : ∀ r ∈ s.1, r ∈ P ∧ r.2 + 1 < s.2.1.1
  high : ∀ r ∈ s.2.2, r ∈ P ∧ s.2.1.2 + 1 < r.1
  lowp : s.1.Pairwise (fun r s => r.2 + 1 < s.1)
  highp : s.2.2.Pairwise (fun r s => r.2 + 1 < s.1)
  ok : mn ≤ s.2.1.1 ∧ s.2.1.1 ≤ s.2.1.2 ∧ s.2.1.2 ≤ mx
  len : s.1.length + s.2.2.length ≤ P.length
theorem stepA_inv {P : List Run} {r x0 : Run} {s : List Run × Run × List Run} (h : AddI mn mx P x0 s) (hg : ∀ p ∈ P, p.2 + 1 < r.1) (hP : ∀ p ∈ P, p.1 ≤ p.2) (hr : mn ≤ r.1 ∧ r.1 ≤ r.2 ∧ r.2 ≤ mx) : AddI mn mx (P ++ [r]) x0 (stepA s r) := by
  obtain ⟨low, x, high⟩ := s
  obtain ⟨hm, hl, hh, hlp, hhp, hok, hlen⟩ := h
  simp only at hm hl hh hlp hhp hok hlen
  unfold stepA
  simp only
  have hm' : ∀ y, mem (P ++ [r]) y ↔ mem P y ∨ (r.1 ≤ y ∧ y ≤ r.2) := fun y => by rw [mem_app, mem_one]
  have hm0 : ∀ y, (mem low y ∨ (x.1 ≤ y ∧ y ≤ x.2) ∨ mem high y) ↔ mem P y ∨ (x0.1 ≤ y ∧ y ≤ x0.2) := fun y => by rw [← hm y, mem_app, mem_cons]
  split
  · rename_i h1
    refine ⟨fun y => ?_, ?_, ?_, ?_, hhp, hok, by simp; omega⟩
    · simp only
      rw [hm', mem_app, mem_app, mem_one, mem_cons]
      have := hm0 y
      constructor
      · rintro ((h | h) | h | h)
        · exact (this.1 (.inl h)).elim (fun h => .inl (.inl h)) .inr
        · exact .inl (.inr h)
        · exact (this.1 (.inr (.inl h))).elim (fun h => .inl (.inl h)) .inr
        · exact (this.1 (.inr (.inr h))).elim (fun h => .inl (.inl h)) .inr
      · rintro ((h | h) | h)
        · exact (this.2 (.inl h)).elim (fun h => .inl (.inl h)) .inr
        · exact .inl (.inr h)
        · exact (this.2 (.inr h)).elim (fun h => .inl (.inl h)) .inr
    · intro q hq
      rcases List.mem_append.1 hq with hq | hq
      · exact ⟨List.mem_append_left _ (hl q hq).1, (hl q hq).2⟩
      · obtain rfl := List.mem_singleton.1 hq
        exact ⟨List.mem_append_right _ List.mem_cons_self, h1⟩
    · intro q hq
      exact ⟨List.mem_append_left _ (hh q hq).1, (hh q hq).2⟩
    · rw [List.pairwise_append]
      refine ⟨hlp, List.pairwise_singleton _ _, fun a ha b hb => ?_⟩
      obtain rfl := List.mem_singleton.1 hb
      exact hg a (hl a ha).1
  · rename_i h1
    split
    · rename_i h2
      refine ⟨fun y => ?_, ?_, ?_, hlp, ?_, hok, by simp; omega⟩
      · simp only
        rw [hm', mem_app, mem_cons, mem_app, mem_one]
        have := hm0 y
        constructor
        · rintro (h | h | h | h)
          · exact (this.1 (.inl h)).elim (fun h => .inl (.inl h)) .inr
          · exact (this.1 (.inr (.inl h))).elim (fun h => .inl (.inl h)) .inr
          · exact (this.1 (.inr (.inr h))).elim (fun h => .inl (.inl h)) .inr
          · exact .inl (.inr h)
        · rintro ((h | h) | h)
          · exact (this.2 (.inl h)).elim .inl (fun h => h.elim (fun h => .inr (.inl h)) (fun h => .inr (.inr (.inl h))))
          · exact .inr (.inr (.inr h))
          · exact (this.2 (.inr h)).elim .inl (fun h => h.elim (fun h => .inr (.inl h)) (fun h => .inr (.inr (.inl h))))
      · intro q hq
        exact ⟨List.mem_append_left _ (hl q hq).1, (hl q hq).2⟩
      · intro q hq
        rcases List.mem_append.1 hq with hq | hq
        · exact ⟨List.mem_append_left _ (hh q hq).1, (hh q hq).2⟩
        · obtain rfl := List.mem_singleton.1 hq
          exact ⟨List.mem_append_right _ List.mem_cons_self, h2⟩
      · rw [List.pairwise_append]
        refine ⟨hhp, List.pairwise_singleton _ _, fun a ha b hb => ?_⟩
        obtain rfl := List.mem_singleton.1 hb
        exact hg a (hh a ha).1
    · rename_i h2
      have hno : high = [] := by
        cases high with
        | nil => rfl
        | cons q high =>
          exfalso
          have a := hh q List.mem_cons_self
          have b := hg q a.1
          have c := hP q a.1
          omega
      subst hno
      refine ⟨fun y => ?_, ?_, ?_, hlp, List.Pairwise.nil, ?_, by simp at hlen ⊢; omega⟩
      · simp only
        rw [hm', mem_app, mem_one]
        have := hm0 y
        constructor
        · rintro (h | h)
          · exact (this.1 (.inl h)).elim (fun h => .inl (.inl h)) .inr
          · by_cases hx : x.1 ≤ y ∧ y ≤ x.2
            · exact (this.1 (.inr (.inl hx))).elim (fun h => .inl (.inl h)) .inr
            · left; right
              simp only at h
              omega
        · rintro ((h | h) | h)
          · rcases this.2 (.inl h) with h | h | h
            · exact .inl h
            · right; simp only; omega
            · exact absurd h (mem_nil _)
          · right; simp only; omega
          · rcases this.2 (.inr h) with h | h | h
            · exact .inl h
            · right; simp only; omega
            · exact absurd h (mem_nil _)
      · intro q hq
        have a := hl q hq
        have b := hg q a.1
        exact ⟨List.mem_append_left _ a.1, by simp only; omega⟩
      · intro q hq; cases hq
      · simp only; omega
theorem addS_inv (h : Good mn mx R) {x : Run} (hx : mn ≤ x.1 ∧ x.1 ≤ x.2 ∧ x.2 ≤ mx) : ∀ n, n ≤ R.length → AddI mn mx (R.take n) x ((R.take n).foldl stepA ([], x, []))
  | 0, _ => ⟨fun y => by simp only [List.take_zero, List.foldl_nil, List.nil_append]; rw [mem_one]; exact ⟨.inr, fun h => h.elim (fun h => absurd h (mem_nil _)) id⟩, fun r hr => (by cases hr), fun r hr => (by cases hr), List.Pairwise.nil, List.Pairwise.nil, hx, by simp⟩
  | n + 1, hn => by
    have hlt : n < R.length := by omega
    rw [List.take_succ_eq_append_getElem hlt, List.foldl_append]
    refine stepA_inv (addS_inv h hx n (by omega)) (fun p hp => ?_) (fun p hp => (h.ok p (List.mem_of_mem_take hp)).2.1) (h.ok _ (List.getElem_mem hlt))
    obtain ⟨j, hj⟩ := List.getElem?_of_mem hp
    have hjn : j < n := by
      have := (List.getElem?_eq_some_iff.1 hj).1
      rw [List.length_take] at this
      omega
    rw [List.getElem?_take, if_pos hjn] at hj
    exact h.lt hjn hj (List.getElem?_eq_getElem hlt)
theorem addR_good (h : Good mn mx R) {x : Run} (hx : mn ≤ x.1 ∧ x.1 ≤ x.2 ∧ x.2 ≤ mx) : Good mn mx (addR R x) ∧ (∀ y, mem (addR R x) y ↔ mem R y ∨ (x.1 ≤ y ∧ y ≤ x.2)) ∧ (addR R x).length ≤ R.length + 1 := by
  have hi := addS_inv h hx R.length (Nat.le_refl _)
  rw [List.take_length] at hi
  unfold addR addS
  generalize R.foldl stepA ([], x, []) = s at *
  obtain ⟨low, z, high⟩ := s
  obtain ⟨hm, hl, hh, hlp, hhp, hok, hlen⟩ := hi
  simp only at *
  refine ⟨⟨fun r hr => ?_, ?_⟩, hm, by simp; omega⟩
  · rcases List.mem_append.1 hr with hr | hr
    · exact h.ok r (hl r hr).1
    · rcases List.mem_cons.1 hr with rfl | hr
      · exact hok
      · exact h.ok r (hh r hr).1
  · rw [List.pairwise_append, List.pairwise_cons]
    refine ⟨hlp, ⟨fun q hq => (hh q hq).2, hhp⟩, fun a ha b hb => ?_⟩
    have h1 := (hl a ha).2
    rcases List.mem_cons.1 hb with rfl | hb
    · exact h1
    · have := (hh b hb).2
      omega

/-- What is left of a run when the numbers from lo to hi are taken out. -/
def cut1 (lo hi : Int) (r : Run) : List Run :=
  if r.2 < lo ∨ hi < r.1 then [r] else (if r.1 < lo then [(r.1, lo - 1)] else []) ++ (if hi < r.2 then [(hi + 1, r.2)] else [])
def cutR (R : List Run) (lo hi : Int) : List Run := R.flatMap (cut1 lo hi)
theorem cut1_mem {lo hi : Int} (r : Run) (y : Int) (hlh : lo ≤ hi) : mem (cut1 lo hi r) y ↔ (r.1 ≤ y ∧ y ≤ r.2) ∧ ¬ (lo ≤ y ∧ y ≤ hi) := by
  unfold cut1
  split
  · rw [mem_one]; constructor
    · intro h; exact ⟨h, by omega⟩
    · intro h; exact h.1
  · rw [mem_app]
    have e1 : mem (if r.1 < lo then [(r.1, lo - 1)] else []) y ↔ r.1 ≤ y ∧ y < lo := by
      split
      · rw [mem_one]; simp only; omega
      · exact ⟨fun h => absurd h (mem_nil _), fun h => by omega⟩
    have e2 : mem (if hi < r.2 then [(hi + 1, r.2)] else []) y ↔ hi < y ∧ y ≤ r.2 := by
      split
      · rw [mem_one]; simp only; omega
      · exact ⟨fun h => absurd h (mem_nil _), fun h => by omega⟩
    rw [e1, e2]
    omega
theorem cut1_sub {lo hi : Int} (r : Run) (hlh : lo ≤ hi) (hr : r.1 ≤ r.2) {q : Run} (hq : q ∈ cut1 lo hi r) : r.1 ≤ q.1 ∧ q.1 ≤ q.2 ∧ q.2 ≤ r.2 := by
  unfold cut1 at hq
  split at hq
  · obtain rfl := List.mem_singleton.1 hq; omega
  · rcases List.mem_append.1 hq with hq | hq
    · split at hq
      · obtain rfl := List.mem_singleton.1 hq; simp only; omega
      · cases hq
    · split at hq
      · obtain rfl := List.mem_singleton.1 hq; simp only; omega
      · cases hq
theorem cut1_gap {lo hi : Int} (r : Run) (hlh : lo ≤ hi) : (cut1 lo hi r).Pairwise (fun r s => r.2 + 1 < s.1) := by
  unfold cut1
  split
  · exact List.pairwise_singleton _ _
  · split <;> split <;> simp
    omega
theorem cutR_cons (r : Run) (R : List Run) (lo hi : Int) : cutR (r :: R) lo hi = cut1 lo hi r ++ cutR R lo hi := by simp [cutR]
theorem cutR_sub {lo hi : Int} (hlh : lo ≤ hi) (hR : ∀ r ∈ R, r.1 ≤ r.2) {q : Run} (hq : q ∈ cutR R lo hi) : ∃ r ∈ R, r.1 ≤ q.1 ∧ q.1 ≤ q.2 ∧ q.2 ≤ r.2 := by
  obtain ⟨r, hr, hq⟩ := List.mem_flatMap.1 hq
  exact ⟨r, hr, cut1_sub r hlh (hR r hr) hq⟩
theorem cutR_good {lo hi : Int} (hlh : lo ≤ hi) : ∀ {R : List Run}, Good mn mx R → Good mn mx (cutR R lo hi) ∧ (∀ y, mem (cutR R lo hi) y ↔ mem R y ∧ ¬ (lo ≤ y ∧ y ≤ hi)) ∧ (cutR R lo hi).length ≤ R.length + 1 ∧ ((∀ r ∈ R, hi < r.1) → (cutR R lo hi).length ≤ R.length)
  | [], h => ⟨good_nil, fun y => ⟨fun h => absurd h (mem_nil _), fun h => absurd h.1 (mem_nil _)⟩, by simp [cutR], fun _ => by simp [cutR]⟩
  | r :: R, h => by
    obtain ⟨g, m, l1, l2⟩ := cutR_good hlh h.tail
    have hr := h.ok r List.mem_cons_self
    rw [cutR_cons]
    refine ⟨⟨fun q hq => ?_, ?_⟩, fun y => ?_, ?_, ?_⟩
    · rcases List.mem_append.1 hq with hq | hq
      · have := cut1_sub r hlh hr.2.1 hq; omega
      · exact g.ok q hq
    · rw [List.pairwise_append]
      refine ⟨cut1_gap r hlh, g.gap, fun a ha b hb => ?_⟩
      have h1 := cut1_sub r hlh hr.2.1 ha
      obtain ⟨s, hs, h2⟩ := cutR_sub hlh (fun r hr => (h.tail.ok r hr).2.1) hb
      have := h.head s hs
      omega
    · rw [mem_app, m, cut1_mem r y hlh, mem_cons]
      constructor
      · rintro (h | h)
        · exact ⟨.inl h.1, h.2⟩
        · exact ⟨.inr h.1, h.2⟩
      · rintro ⟨h | h, h2⟩
        · exact .inl ⟨h, h2⟩
        · exact .inr ⟨h, h2⟩
    · rw [List.length_append, List.length_cons]
      have hc : (cut1 lo hi r).length ≤ 1 ∨ ((cut1 lo hi r).length ≤ 2 ∧ hi < r.2) := by
        unfold cut1
        split
        · left; simp
        · split <;> split <;> simp <;> omega
      rcases hc with hc | ⟨hc, h2⟩
      · omega
      · have := l2 (fun s hs => by have := h.head s hs; omega)
        omega
    · intro hall
      have h1 := hall r List.mem_cons_self
      have h2 := l2 (fun s hs => hall s (List.mem_cons_of_mem _ hs))
      have h3 : cut1 lo hi r = [r] := by unfold cut1; rw [if_pos (.inr h1)]
      rw [h3, List.length_append, List.length_cons]
      simp; omega
theorem good_len (h : Good mn mx R) (hle : mn ≤ mx + 1) : (R.length : Int) ≤ mx + 1 - mn := by
  induction R generalizing mn with
  | nil => simp; omega
  | cons r R ih =>
    have hr := h.ok r List.mem_cons_self
    have h2 : Good (r.2 + 1) mx R := ⟨fun s hs => by have := h.head s hs; have := h.tail.ok s hs; omega, h.tail.gap⟩
    have := ih h2 (by omega)
    simp
    omega
end Go.Proofs.Ytbaciaolhfmfkaa.Sp
