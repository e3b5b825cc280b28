/- This text proves, with no program in sight, that rising and sinking keep a heap over whole numbers in order, and that its first item is the least. -/
import Derived.Test.YtiocnkoogachkaaHw
namespace Go.Proofs.Ytiocnkoogachkaa.Hp
variable {κ : Type}
/-- What '<' answers. -/
def LT (a b : Int) (r : Bool) : Prop := r = decide (a < b)
/-- x stands ahead of y. -/
def Lt (x y : It κ Int) : Prop := x.rank < y.rank ∨ (x.rank = y.rank ∧ x.came < y.came)
theorem ahead_LT {x y : It κ Int} {r : Bool} (h : Ahead LT x y r) : (r = true ↔ Lt x y) := by
  obtain ⟨r1, h1, h2⟩ := h
  unfold LT at h1
  unfold Lt
  rcases h2 with ⟨rfl, rfl⟩ | ⟨rfl, r2, h3, ⟨rfl, rfl⟩ | ⟨rfl, rfl⟩⟩
  · have := of_decide_eq_true h1.symm
    exact ⟨fun _ => .inl this, fun _ => rfl⟩
  · have a := of_decide_eq_true h3.symm
    constructor
    · intro h; cases h
    · intro h; omega
  · have a := of_decide_eq_false h1.symm
    have b := of_decide_eq_false h3.symm
    rw [decide_eq_true_eq]
    omega
theorem le_trans {x y z : It κ Int} (h1 : ¬ Lt y x) (h2 : ¬ Lt z y) : ¬ Lt z x := by unfold Lt at *; omega
theorem le_of_lt {x y : It κ Int} (h1 : Lt x y) : ¬ Lt y x := by unfold Lt at *; omega
theorem le_refl (x : It κ Int) : ¬ Lt x x := by unfold Lt; omega

def Heap (L : List (It κ Int)) : Prop := ∀ j x y, 0 < j → L[j]? = some x → L[(j - 1) / 2]? = some y → ¬ Lt x y
/-- In order but for the item at i and its kids. -/
structure Exc (L : List (It κ Int)) (i : Nat) : Prop where
  far : ∀ j x y, 0 < j → j ≠ i → (j - 1) / 2 ≠ i → L[j]? = some x → L[(j - 1) / 2]? = some y → ¬ Lt x y
  kid : 0 < i → ∀ j x y, 0 < j → (j - 1) / 2 = i → L[j]? = some x → L[(i - 1) / 2]? = some y → ¬ Lt x y
/-- .. and no kid of i is less than it. -/
structure UpE (L : List (It κ Int)) (i : Nat) : Prop extends Exc L i where
  down : ∀ j x y, 0 < j → (j - 1) / 2 = i → L[j]? = some x → L[i]? = some y → ¬ Lt x y
/-- .. and it is not less than its parent. -/
structure DownE (L : List (It κ Int)) (i : Nat) : Prop extends Exc L i where
  up : ∀ x y, 0 < i → L[i]? = some x → L[(i - 1) / 2]? = some y → ¬ Lt x y

theorem Heap.downE {L : List (It κ Int)} (h : Heap L) (i : Nat) : DownE L i := by
  refine ⟨⟨fun j x y h0 _ _ hx hy => h j x y h0 hx hy, fun hi j x y hj hji hx hy => ?_⟩, fun x y hi hx hy => h i x y hi hx hy⟩
  have hlt := (List.getElem?_eq_some_iff.1 hx).1
  obtain ⟨z, hz⟩ : ∃ z, L[i]? = some z := ⟨_, List.getElem?_eq_getElem (by omega)⟩
  exact le_trans (h i z y hi hz hy) (h j x z hj hx (by rw [hji]; exact hz))

theorem upE_swap {L : List (It κ Int)} {i : Nat} {x y : It κ Int} (h : Exc L i) (hi : 0 < i) (hx : L[i]? = some x) (hy : L[(i - 1) / 2]? = some y) (hl : Lt x y) : UpE (swp L i ((i - 1) / 2)) ((i - 1) / 2) := by
  have G := swp_get hx hy
  obtain ⟨p, hp⟩ : ∃ p, p = (i - 1) / 2 := ⟨_, rfl⟩
  rw [← hp] at G hy ⊢
  have hpi : p < i := by omega
  have hle := le_of_lt hl
  -- a kid of the parent, that is not i
  have sib : ∀ j z, 0 < j → j ≠ i → (j - 1) / 2 = p → L[j]? = some z → ¬ Lt z y := fun j z hj hji hjp hz => h.far j z y hj hji (by omega) hz (by rw [hjp]; exact hy)
  refine ⟨⟨?_, ?_⟩, ?_⟩
  · intro j a b h0 hj1 hj2 ha hb
    rw [G] at ha hb
    rw [if_neg hj1] at ha
    rw [if_neg hj2] at hb
    by_cases hji : j = i
    · subst hji; exact absurd hp.symm hj2
    · rw [if_neg hji] at ha
      by_cases hq : (j - 1) / 2 = i
      · rw [if_pos hq] at hb
        cases hb
        exact h.kid hi j a y h0 hq ha (by rw [← hp]; exact hy)
      · rw [if_neg hq] at hb
        exact h.far j a b h0 hji hq ha hb
  · intro h0 j a b hj hjp ha hb
    rw [G] at ha hb
    have hbb : L[(p - 1) / 2]? = some b := by rw [if_neg (by omega), if_neg (by omega)] at hb; exact hb
    have hyb : ¬ Lt y b := h.far p y b h0 (by omega) (by omega) hy hbb
    rw [if_neg (by omega)] at ha
    by_cases hji : j = i
    · subst hji
      rw [if_pos rfl] at ha; cases ha
      exact hyb
    · rw [if_neg hji] at ha
      exact le_trans hyb (sib j a hj hji hjp ha)
  · intro j a b hj hjp ha hb
    rw [G] at ha hb
    rw [if_pos rfl] at hb; cases hb
    rw [if_neg (by omega)] at ha
    by_cases hji : j = i
    · subst hji
      rw [if_pos rfl] at ha; cases ha
      exact hle
    · rw [if_neg hji] at ha
      exact le_trans hle (sib j a hj hji hjp ha)

theorem UpE.heap_of {L : List (It κ Int)} {i : Nat} (h : UpE L i) (hu : ∀ x y, 0 < i → L[i]? = some x → L[(i - 1) / 2]? = some y → ¬ Lt x y) : Heap L := by
  intro j x y hj hx hy
  by_cases h1 : j = i
  · subst h1; exact hu x y hj hx hy
  · by_cases h2 : (j - 1) / 2 = i
    · exact h.down j x y hj h2 hx (by rw [← h2]; exact hy)
    · exact h.far j x y hj h1 h2 hx hy

theorem UpR.heap {L L' : List (It κ Int)} {i : Nat} (h : UpR LT L i L') : UpE L i → Heap L' := by
  induction h with
  | top L => exact fun hE => hE.heap_of (fun _ _ h => by omega)
  | stop h0 hx hy ha =>
    intro hE
    refine hE.heap_of (fun a b _ h1 h2 => ?_)
    rw [hx] at h1; rw [hy] at h2; cases h1; cases h2
    intro hl
    have := (ahead_LT ha).2 hl
    cases this
  | go h0 hx hy ha _ ih => exact fun hE => ih (upE_swap hE.toExc h0 hx hy ((ahead_LT ha).1 rfl))

theorem UpR.downE {L L' : List (It κ Int)} {i : Nat} (h : UpR LT L i L') (hE : Exc L i) : DownE L' i := by
  cases h with
  | top => exact ⟨hE, fun _ _ h => by omega⟩
  | stop h0 hx hy ha =>
    refine ⟨hE, fun a b _ h1 h2 => ?_⟩
    rw [hx] at h1; rw [hy] at h2; cases h1; cases h2
    intro hl
    have := (ahead_LT ha).2 hl
    cases this
  | go h0 hx hy ha h => exact (h.heap (upE_swap hE h0 hx hy ((ahead_LT ha).1 rfl))).downE i

/-- What is picked is the least of the two. -/
theorem pick_le {L : List (It κ Int)} {m k m' : Nat} (h : Pick LT L m k m') (hm : m < L.length) {a : It κ Int} (ha : L[m']? = some a) :
    (∀ b, L[m]? = some b → ¬ Lt b a) ∧ (∀ b, L[k]? = some b → ¬ Lt b a) := by
  rcases h with ⟨hk, rfl⟩ | ⟨x, y, r, hx, hy, hr, rfl⟩
  · refine ⟨fun b hb => ?_, fun b hb => ?_⟩
    · rw [ha] at hb; cases hb; exact le_refl _
    · have := (List.getElem?_eq_some_iff.1 hb).1; omega
  · have hA := ahead_LT hr
    cases r with
    | true =>
      have hl := hA.1 rfl
      simp only [if_true] at ha
      rw [hx] at ha; cases ha
      refine ⟨fun b hb => ?_, fun b hb => ?_⟩
      · rw [hy] at hb; cases hb; exact le_of_lt hl
      · rw [hx] at hb; cases hb; exact le_refl _
    | false =>
      simp only [Bool.false_eq_true, if_false] at ha
      rw [hy] at ha; cases ha
      refine ⟨fun b hb => ?_, fun b hb => ?_⟩
      · rw [hy] at hb; cases hb; exact le_refl _
      · rw [hx] at hb; cases hb
        intro hl
        have := hA.2 hl
        cases this

/-- The least of an item and its kids. -/
theorem picks {L : List (It κ Int)} {i m1 m : Nat} (hi : i < L.length) (h1 : Pick LT L i (2 * i + 1) m1) (h2 : Pick LT L m1 (2 * i + 2) m) :
    m < L.length ∧ (m = i ∨ m = 2 * i + 1 ∨ m = 2 * i + 2) ∧ ∀ a, L[m]? = some a → (∀ b, L[i]? = some b → ¬ Lt b a) ∧ (∀ j b, 0 < j → (j - 1) / 2 = i → L[j]? = some b → ¬ Lt b a) := by
  have hm1 := h1.lt hi
  have hm := h2.lt hm1
  refine ⟨hm, ?_, fun a ha => ?_⟩
  · rcases h2.cases with h | h
    · rcases h1.cases with h' | h'
      · left; omega
      · right; left; omega
    · right; right; exact h
  · obtain ⟨p1, p2⟩ := pick_le h2 hm1 ha
    obtain ⟨z, hz⟩ : ∃ z, L[m1]? = some z := ⟨_, List.getElem?_eq_getElem hm1⟩
    obtain ⟨q1, q2⟩ := pick_le h1 hi hz
    have hza := p1 z hz
    refine ⟨fun b hb => le_trans hza (q1 b hb), fun j b hj hji hb => ?_⟩
    rcases (show j = 2 * i + 1 ∨ j = 2 * i + 2 by omega) with rfl | rfl
    · exact le_trans hza (q2 b hb)
    · exact p2 b hb

theorem DownR.heap {L L' : List (It κ Int)} {i : Nat} (h : DownR LT L i L') : i < L.length → DownE L i → Heap L' := by
  induction h with
  | @stop L i m h1 h2 =>
    intro hi hE j x y hj hx hy
    obtain ⟨_, _, hl⟩ := picks hi h1 h2
    by_cases ha : j = i
    · subst ha; exact hE.up x y hj hx hy
    · by_cases hb : (j - 1) / 2 = i
      · rw [hb] at hy
        exact (hl y hy).2 j x hj hb hx
      · exact hE.far j x y hj ha hb hx hy
  | @go L L' i m1 m h1 h2 hne _ ih =>
    intro hi hE
    obtain ⟨hm, hc, hl⟩ := picks hi h1 h2
    obtain ⟨a, ha⟩ : ∃ a, L[m]? = some a := ⟨_, List.getElem?_eq_getElem hm⟩
    obtain ⟨x, hx⟩ : ∃ x, L[i]? = some x := ⟨_, List.getElem?_eq_getElem hi⟩
    obtain ⟨l1, l2⟩ := hl a ha
    have G := swp_get hx ha
    have hmi : (m - 1) / 2 = i := by omega
    have hm0 : 0 < m := by omega
    have him : i < m := by omega
    refine ih (by rw [swp_len]; exact hm) ⟨⟨?_, ?_⟩, ?_⟩
    · intro j u v hj hj1 hj2 hu hv
      rw [G] at hu hv
      rw [if_neg hj1] at hu
      rw [if_neg hj2] at hv
      by_cases hji : j = i
      · subst hji
        rw [if_pos rfl] at hu; cases hu
        rw [if_neg (by omega)] at hv
        exact hE.kid hj m _ v hm0 hmi ha hv
      · rw [if_neg hji] at hu
        by_cases hq : (j - 1) / 2 = i
        · rw [if_pos hq] at hv; cases hv
          exact l2 j u hj hq hu
        · rw [if_neg hq] at hv
          exact hE.far j u v hj hji hq hu hv
    · intro _ j u v hj hjm hu hv
      rw [G] at hu hv
      rw [if_neg (by omega), if_neg (by omega)] at hu
      rw [if_neg (by omega), if_pos hmi] at hv
      cases hv
      exact hE.far j u a hj (by omega) (by omega) hu (by rw [hjm]; exact ha)
    · intro u v _ hu hv
      rw [G] at hu hv
      rw [if_pos rfl] at hu; cases hu
      rw [if_neg (by omega), if_pos hmi] at hv; cases hv
      exact l1 _ hx

/-- The first item is the least. -/
theorem Heap.least {L : List (It κ Int)} (h : Heap L) {x : It κ Int} (hx : L[0]? = some x) : ∀ (j : Nat) (y : It κ Int), L[j]? = some y → ¬ Lt y x := by
  intro j
  induction j using Nat.strongRecOn with
  | _ j ih =>
    intro y hy
    by_cases h0 : j = 0
    · subst h0; rw [hx] at hy; cases hy; exact le_refl _
    · have hlt := (List.getElem?_eq_some_iff.1 hy).1
      obtain ⟨z, hz⟩ : ∃ z, L[(j - 1) / 2]? = some z := ⟨_, List.getElem?_eq_getElem (by omega)⟩
      exact le_trans (ih _ (by omega) z hz) (h j y z (by omega) hy hz)
theorem Heap.least_mem {L : List (It κ Int)} (h : Heap L) {x : It κ Int} (hx : L[0]? = some x) {y : It κ Int} (hy : y ∈ L) : ¬ Lt y x := by
  obtain ⟨j, hj⟩ := List.getElem?_of_mem hy
  exact h.least hx j y hj

/-- An item more. -/
theorem push_heap {L L' : List (It κ Int)} {x : It κ Int} (h : Heap L) (hu : UpR LT (L ++ [x]) L.length L') : Heap L' := by
  have g : ∀ j, j < L.length → (L ++ [x])[j]? = L[j]? := fun j hj => List.getElem?_append_left hj
  refine hu.heap ⟨⟨?_, ?_⟩, ?_⟩
  · intro j a b hj hj1 hj2 ha hb
    have hlt := (List.getElem?_eq_some_iff.1 ha).1
    rw [List.length_append, List.length_singleton] at hlt
    rw [g _ (by omega)] at ha hb
    exact h j a b hj ha hb
  · intro h0 j a b hj hji ha hb
    have hlt := (List.getElem?_eq_some_iff.1 ha).1
    rw [List.length_append, List.length_singleton] at hlt
    omega
  · intro j a b hj hji ha hb
    have hlt := (List.getElem?_eq_some_iff.1 ha).1
    rw [List.length_append, List.length_singleton] at hlt
    omega

/-- A rank lowered. -/
theorem lower_heap {L L' : List (It κ Int)} {i : Nat} {x x' : It κ Int} (h : Heap L) (hx : L[i]? = some x) (hl : ¬ Lt x x') (hu : UpR LT (L.set i x') i L') : Heap L' := by
  have hi := (List.getElem?_eq_some_iff.1 hx).1
  have hE := h.downE i
  have g : ∀ j, j ≠ i → (L.set i x')[j]? = L[j]? := fun j hj => List.getElem?_set_ne (Ne.symm hj)
  refine hu.heap ⟨⟨?_, ?_⟩, ?_⟩
  · intro j a b hj hj1 hj2 ha hb
    rw [g _ hj1] at ha; rw [g _ hj2] at hb
    exact h j a b hj ha hb
  · intro h0 j a b hj hji ha hb
    rw [g _ (by omega)] at ha hb
    exact hE.kid h0 j a b hj hji ha hb
  · intro j a b hj hji ha hb
    rw [g _ (by omega)] at ha
    rw [List.getElem?_set_self hi] at hb; cases hb
    exact le_trans hl (h j a x hj ha (by rw [hji]; exact hx))

theorem swp_last {L : List (It κ Int)} {i : Nat} {x : It κ Int} (hx : L[i]? = some x) : swp L i (L.length - 1) = (swp L i (L.length - 1)).dropLast ++ [x] := by
  have hi := (List.getElem?_eq_some_iff.1 hx).1
  obtain ⟨y, hy⟩ : ∃ y, L[L.length - 1]? = some y := ⟨_, List.getElem?_eq_getElem (by omega)⟩
  have hne : swp L i (L.length - 1) ≠ [] := fun e => by have := congrArg List.length e; rw [swp_len, List.length_nil] at this; omega
  have hg : (swp L i (L.length - 1))[L.length - 1]? = some x := by rw [swp_get hx hy, if_pos rfl]
  have : (swp L i (L.length - 1)).getLast hne = x := by
    rw [List.getLast_eq_getElem]
    have h2 := hg
    rw [List.getElem?_eq_getElem (by rw [swp_len]; omega)] at h2
    have h3 := Option.some.inj h2
    simp only [swp_len]
    exact h3
  rw [← this]
  exact (List.dropLast_concat_getLast hne).symm

theorem UpR.perm {A : Int → Int → Bool → Prop} {L L' : List (It κ Int)} {i : Nat} (h : UpR A L i L') : L'.Perm L := by
  induction h with
  | top => exact List.Perm.refl _
  | stop => exact List.Perm.refl _
  | go _ hx hy _ _ ih => exact ih.trans (swp_perm hx hy)
theorem DownR.perm {A : Int → Int → Bool → Prop} {L L' : List (It κ Int)} {i : Nat} (h : DownR A L i L') : i < L.length → L'.Perm L := by
  induction h with
  | stop => exact fun _ => List.Perm.refl _
  | @go L L' i m1 m h1 h2 _ _ ih =>
    intro hi
    have hm := h2.lt (h1.lt hi)
    exact (ih (by rw [swp_len]; exact hm)).trans (swp_perm (List.getElem?_eq_getElem hi) (List.getElem?_eq_getElem hm))
theorem DropR.perm {A : Int → Int → Bool → Prop} {L L' : List (It κ Int)} {i : Nat} {x : It κ Int} (h : DropR A L i L') (hx : L[i]? = some x) : (x :: L').Perm L := by
  have hi := (List.getElem?_eq_some_iff.1 hx).1
  obtain ⟨y, hy⟩ : ∃ y, L[L.length - 1]? = some y := ⟨_, List.getElem?_eq_getElem (by omega)⟩
  have hp : (x :: (swp L i (L.length - 1)).dropLast).Perm L := by
    have h1 := swp_perm hx hy
    rw [swp_last hx] at h1
    exact (List.perm_append_singleton x _).symm.trans h1
  rcases h with ⟨hlt, L3, h1, h2⟩ | ⟨_, rfl⟩
  · have hl : (swp L i (L.length - 1)).dropLast.length = L.length - 1 := by rw [List.length_dropLast, swp_len]
    have hl3 : L3.length = L.length - 1 := by rw [h1.perm.length_eq, hl]
    exact (((h2.perm (by omega)).trans h1.perm).cons x).trans hp
  · exact hp
/-- An item taken out. -/
theorem DropR.heap {L L' : List (It κ Int)} {i : Nat} {x : It κ Int} (h : DropR LT L i L') (hx : L[i]? = some x) (hH : Heap L) : Heap L' := by
  have hi := (List.getElem?_eq_some_iff.1 hx).1
  obtain ⟨y, hy⟩ : ∃ y, L[L.length - 1]? = some y := ⟨_, List.getElem?_eq_getElem (by omega)⟩
  have G := swp_get hx hy
  have g : ∀ j, j < L.length - 1 → j ≠ i → (swp L i (L.length - 1)).dropLast[j]? = L[j]? := fun j h1 h2 => by
    rw [List.getElem?_dropLast, if_pos (by rw [swp_len]; exact h1), G, if_neg (by omega), if_neg h2]
  have lt : ∀ j a, (swp L i (L.length - 1)).dropLast[j]? = some a → j < L.length - 1 := fun j a ha => by
    have := (List.getElem?_eq_some_iff.1 ha).1
    rw [List.length_dropLast, swp_len] at this
    exact this
  rcases h with ⟨hlt, L3, h1, h2⟩ | ⟨he, rfl⟩
  · have hl : (swp L i (L.length - 1)).dropLast.length = L.length - 1 := by rw [List.length_dropLast, swp_len]
    have hl3 : L3.length = L.length - 1 := by rw [h1.perm.length_eq, hl]
    have hE := hH.downE i
    refine h2.heap (by omega) (h1.downE ⟨?_, ?_⟩)
    · intro j a b hj hj1 hj2 ha hb
      have := lt j a ha
      rw [g j this hj1] at ha
      rw [g _ (by omega) hj2] at hb
      exact hH j a b hj ha hb
    · intro h0 j a b hj hji ha hb
      have := lt j a ha
      rw [g j this (by omega)] at ha
      rw [g _ (by omega) (by omega)] at hb
      exact hE.kid h0 j a b hj hji ha hb
  · intro j a b hj ha hb
    have := lt j a ha
    rw [g j this (by omega)] at ha
    rw [g _ (by omega) (by omega)] at hb
    exact hH j a b hj ha hb
theorem heap_nil : Heap ([] : List (It κ Int)) := fun j x y _ hx => by cases hx
end Go.Proofs.Ytiocnkoogachkaa.Hp
