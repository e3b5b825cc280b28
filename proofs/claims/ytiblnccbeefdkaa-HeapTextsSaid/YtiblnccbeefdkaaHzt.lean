/- This text proves, with no program in sight, what a heap over an order that never says yes does: it is one over how its items came. -/
import Derived.Test.YtiblnccbeefdkaaHz
namespace Go.Proofs.Ytiblnccbeefdkaa.Hp
variable {κ ρ : Type}
/-- An order that never says yes. -/
def NoLess (a b : ρ) (r : Bool) : Prop := r = false
/-- An item without its rank. -/
def flat0 (x : It κ ρ) : It κ Int := ⟨x.key, 0, x.came⟩
theorem ahead_no {x y : It κ ρ} {r : Bool} (h : Ahead NoLess x y r) : Ahead LT (flat0 x) (flat0 y) r := by
  obtain ⟨r1, h1, h2⟩ := h
  have e1 : r1 = false := h1
  subst e1
  refine ⟨false, by simp [LT, flat0], ?_⟩
  rcases h2 with ⟨h, _⟩ | ⟨_, r2, h3, h4⟩
  · cases h
  · have e2 : r2 = false := h3
    subst e2
    refine .inr ⟨rfl, false, by simp [LT, flat0], ?_⟩
    rcases h4 with ⟨h, _⟩ | h
    · cases h
    · exact .inr h
theorem get_flat {L : List (It κ ρ)} {i : Nat} {x : It κ ρ} (h : L[i]? = some x) : (L.map flat0)[i]? = some (flat0 x) := by rw [List.getElem?_map, h]; rfl
theorem swp_flat (L : List (It κ ρ)) (i j : Nat) : (swp L i j).map flat0 = swp (L.map flat0) i j := by
  unfold swp
  rw [List.getElem?_map, List.getElem?_map]
  cases h1 : L[i]? with
  | none => simp
  | some x =>
    cases h2 : L[j]? with
    | none => simp
    | some y => simp
theorem UpR.flat {L L' : List (It κ ρ)} {i : Nat} (h : UpR NoLess L i L') : UpR LT (L.map flat0) i (L'.map flat0) := by
  induction h with
  | top L => exact .top _
  | stop h0 hx hy ha => exact .stop h0 (get_flat hx) (get_flat hy) (ahead_no ha)
  | go h0 hx hy ha _ ih => exact .go h0 (get_flat hx) (get_flat hy) (ahead_no ha) (by rw [← swp_flat]; exact ih)
theorem Pick.flat {L : List (It κ ρ)} {m k m' : Nat} (h : Pick NoLess L m k m') : Pick LT (L.map flat0) m k m' := by
  rcases h with ⟨h1, h2⟩ | ⟨x, y, r, hx, hy, ha, h⟩
  · exact .inl ⟨by rw [List.length_map]; exact h1, h2⟩
  · exact .inr ⟨_, _, r, get_flat hx, get_flat hy, ahead_no ha, h⟩
theorem DownR.flat {L L' : List (It κ ρ)} {i : Nat} (h : DownR NoLess L i L') : DownR LT (L.map flat0) i (L'.map flat0) := by
  induction h with
  | stop h1 h2 => exact .stop h1.flat h2.flat
  | go h1 h2 h3 _ ih => exact .go h1.flat h2.flat h3 (by rw [← swp_flat]; exact ih)
theorem DropR.flat {L L' : List (It κ ρ)} {i : Nat} (h : DropR NoLess L i L') : DropR LT (L.map flat0) i (L'.map flat0) := by
  rcases h with ⟨h1, L3, h2, h3⟩ | ⟨h1, rfl⟩
  · refine .inl ⟨by rw [List.length_map]; exact h1, L3.map flat0, ?_, h3.flat⟩
    rw [List.length_map, ← swp_flat, ← List.map_dropLast]
    exact h2.flat
  · refine .inr ⟨by rw [List.length_map]; exact h1, ?_⟩
    rw [List.length_map, ← swp_flat, List.map_dropLast]
theorem swp_lastG {L : List (It κ ρ)} {i : Nat} {x : It κ ρ} (hx : L[i]? = some x) : swp L i (L.length - 1) = (swp L i (L.length - 1)).dropLast ++ [x] := by
  have hi := (List.getElem?_eq_some_iff.1 hx).1
  obtain ⟨y, hy⟩ : ∃ y, L[L.length - 1]? = some y := ⟨_, List.getElem?_eq_getElem (by omega)⟩
  have hne : swp L i (L.length - 1) ≠ [] := fun e => by have := congrArg List.length e; rw [swp_len, List.length_nil] at this; omega
  have hg : (swp L i (L.length - 1))[L.length - 1]? = some x := by rw [swp_get hx hy, if_pos rfl]
  have : (swp L i (L.length - 1)).getLast hne = x := by
    rw [List.getLast_eq_getElem]
    have h2 := hg
    rw [List.getElem?_eq_getElem (by rw [swp_len]; omega)] at h2
    have h3 := Option.some.inj h2
    simp only [swp_len]
    exact h3
  rw [← this]
  exact (List.dropLast_concat_getLast hne).symm
theorem UpR.permG {A : ρ → ρ → Bool → Prop} {L L' : List (It κ ρ)} {i : Nat} (h : UpR A L i L') : L'.Perm L := by
  induction h with
  | top => exact List.Perm.refl _
  | stop => exact List.Perm.refl _
  | go _ hx hy _ _ ih => exact ih.trans (swp_perm hx hy)
theorem DownR.permG {A : ρ → ρ → Bool → Prop} {L L' : List (It κ ρ)} {i : Nat} (h : DownR A L i L') : i < L.length → L'.Perm L := by
  induction h with
  | stop => exact fun _ => List.Perm.refl _
  | @go L L' i m1 m h1 h2 _ _ ih =>
    intro hi
    have hm := h2.lt (h1.lt hi)
    exact (ih (by rw [swp_len]; exact hm)).trans (swp_perm (List.getElem?_eq_getElem hi) (List.getElem?_eq_getElem hm))
theorem DropR.permG {A : ρ → ρ → Bool → Prop} {L L' : List (It κ ρ)} {i : Nat} {x : It κ ρ} (h : DropR A L i L') (hx : L[i]? = some x) : (x :: L').Perm L := by
  have hi := (List.getElem?_eq_some_iff.1 hx).1
  obtain ⟨y, hy⟩ : ∃ y, L[L.length - 1]? = some y := ⟨_, List.getElem?_eq_getElem (by omega)⟩
  have hp : (x :: (swp L i (L.length - 1)).dropLast).Perm L := by
    have h1 := swp_perm hx hy
    rw [swp_lastG hx] at h1
    exact (List.perm_append_singleton x _).symm.trans h1
  rcases h with ⟨hlt, L3, h1, h2⟩ | ⟨_, rfl⟩
  · have hl : (swp L i (L.length - 1)).dropLast.length = L.length - 1 := by rw [List.length_dropLast, swp_len]
    have hl3 : L3.length = L.length - 1 := by rw [h1.permG.length_eq, hl]
    exact (((h2.permG (by omega)).trans h1.permG).cons x).trans hp
  · exact hp
/-- The items as they came. -/
structure Came {κ : Type} (M : List (It κ ρ)) : Prop where
  came : ∀ (j : Nat) (x : It κ ρ), M[j]? = some x → x.came = (j : Int) + 1
theorem Came.nil {κ ρ : Type} : Came ([] : List (It κ ρ)) := ⟨fun j x h => by simp at h⟩
theorem Came.snoc {κ ρ : Type} {M : List (It κ ρ)} {x : It κ ρ} (h : Came M) (hx : x.came = (M.length : Int) + 1) : Came (M ++ [x]) := ⟨fun j y hy => by
  rw [List.getElem?_append] at hy
  split at hy
  · exact h.came j y hy
  · rename_i hj
    have : j - M.length = 0 := by
      rcases Nat.eq_zero_or_pos (j - M.length) with e | e
      · exact e
      · rw [List.getElem?_eq_none (by simp; omega)] at hy; cases hy
    rw [this] at hy
    have e : x = y := by simpa using hy
    subst e
    rw [hx]
    omega⟩
/-- The first of the heap is the eldest. -/
theorem Came.first {κ ρ : Type} {M L : List (It κ ρ)} {t : Nat} (h : Came M) (hP : L.Perm (M.drop t)) (hH : Heap (L.map flat0)) (ht : t < M.length) : ∃ x, L[0]? = some x ∧ M[t]? = some x := by
  have hl : L.length = M.length - t := by rw [hP.length_eq, List.length_drop]
  obtain ⟨x, hx⟩ : ∃ x, L[0]? = some x := ⟨_, List.getElem?_eq_getElem (by omega)⟩
  refine ⟨x, hx, ?_⟩
  obtain ⟨y, hy⟩ : ∃ y, M[t]? = some y := ⟨_, List.getElem?_eq_getElem ht⟩
  have hxm : x ∈ M.drop t := hP.mem_iff.1 (List.mem_of_getElem? hx)
  obtain ⟨j, hj⟩ := List.getElem?_of_mem hxm
  rw [List.getElem?_drop] at hj
  have hym : y ∈ L := hP.mem_iff.2 (List.mem_of_getElem? (i := 0) (by rw [List.getElem?_drop]; exact hy))
  have h1 := Heap.least_mem hH (x := flat0 x) (by rw [List.getElem?_map, hx]; rfl) (y := flat0 y) (List.mem_map_of_mem hym)
  have h2 := h.came _ _ hj
  have h3 := h.came _ _ hy
  have h4 : ¬ y.came < x.came := fun hlt => h1 (.inr ⟨rfl, hlt⟩)
  have h5 : j = 0 := by omega
  rw [← hj, h5]
  rfl
theorem Came.next {κ ρ : Type} {M L L' : List (It κ ρ)} {t : Nat} {x : It κ ρ} (hP : L.Perm (M.drop t)) (hx : M[t]? = some x) (hD : (x :: L').Perm L) : L'.Perm (M.drop (t + 1)) := by
  have ht := (List.getElem?_eq_some_iff.1 hx).1
  have h1 : M.drop t = x :: M.drop (t + 1) := by
    rw [List.drop_eq_getElem_cons ht, (List.getElem?_eq_some_iff.1 hx).2]
  have h2 := hD.trans hP
  rw [h1] at h2
  exact (List.perm_cons x).1 h2
end Go.Proofs.Ytiblnccbeefdkaa.Hp
