/- This text is the plain law of the reference of sets of whole numbers: what its printed functions compute. -/
import Derived.Test.YtbaciaolhfmfkaaPSpansBytesx
import Derived.Test.YtbaciaolhfmfkaaSp
namespace Go.Proofs.Ytbaciaolhfmfkaa.Rf
open Go.RowKit Go.Proofs.YtbaciaolhfmfkaaW.PrintWords Go.Proofs.Ytbaciaolhfmfkaa.Sp Go.Proofs.Ytbaciaolhfmfkaa.PSpansBytes
set_option linter.unusedVariables false
/-- With rounds enough. -/
def Ev {α : Type} (g : Nat → Option α) (r : α) : Prop := ∃ K, ∀ k, K ≤ k → g k = some r
theorem wrap_in {x : Int} (h : -9223372036854775808 ≤ x ∧ x ≤ 9223372036854775807) : wrap64 x = x := by unfold wrap64; omega
theorem rd_T98_get {l : List S98} {i : Nat} (h : i < l.length) : rd_T98 l (i : Int) = l[i] := by unfold rd_T98; simp [h]
theorem rd_T42_get {l : List S42} {i : Nat} (h : i < l.length) : rd_T42 l (i : Int) = l[i] := by unfold rd_T42; simp [h]
theorem rd_get {l : List Int} {i : Nat} (h : i < l.length) : rd l (i : Int) = l[i] := by unfold rd; simp [h]
def covers (a : S98) (x : Int) : Prop := a.f1 ≤ x ∧ x ≤ a.f2
instance (a : S98) (x : Int) : Decidable (covers a x) := by unfold covers; infer_instance
/-- Is x in it: the last act that names it says. -/
def hasL (acts : List S98) (x : Int) : Bool := acts.foldl (fun b a => if covers a x then a.f0 else b) false
theorem hasL_snoc (acts : List S98) (a : S98) (x : Int) : hasL (acts ++ [a]) x = if covers a x then a.f0 else hasL acts x := by unfold hasL; rw [List.foldl_append]; rfl
theorem hasL_take (acts : List S98) (x : Int) (i : Nat) (h : i < acts.length) : hasL (acts.take (i + 1)) x = if covers acts[i] x then acts[i].f0 else hasL (acts.take i) x := by
  rw [List.take_succ_eq_append_getElem h, hasL_snoc]
theorem hasL_none (acts : List S98) (x : Int) (h : ∀ a ∈ acts, ¬ covers a x) : hasL acts x = false := by
  unfold hasL
  have : ∀ (b : Bool), acts.foldl (fun b a => if covers a x then a.f0 else b) b = b := by
    induction acts with
    | nil => intro b; rfl
    | cons a acts ih =>
      intro b
      rw [List.foldl_cons, if_neg (h a List.mem_cons_self)]
      exact ih (fun a ha => h a (List.mem_cons_of_mem _ ha)) b
  exact this false
theorem hasL_same (acts : List S98) (x y : Int) (h : ∀ a ∈ acts, covers a x ↔ covers a y) : hasL acts x = hasL acts y := by
  unfold hasL
  have : ∀ (b : Bool), acts.foldl (fun b a => if covers a x then a.f0 else b) b = acts.foldl (fun b a => if covers a y then a.f0 else b) b := by
    induction acts with
    | nil => intro b; rfl
    | cons a acts ih =>
      intro b
      rw [List.foldl_cons, List.foldl_cons, ih (fun a ha => h a (List.mem_cons_of_mem _ ha))]
      congr 1
      have := h a List.mem_cons_self
      by_cases hx : covers a x
      · rw [if_pos hx, if_pos (this.1 hx)]
      · rw [if_neg hx, if_neg (fun hy => hx (this.2 hy))]
  exact this false
theorem has_l0 (acts : List S98) (most x : Int) (hl : acts.length ≤ 4398046511104) : ∀ i, i ≤ acts.length → ∀ k, i < k → brambleref02_Has.l0 k x ((i : Int) - 1) acts most = some (hasL (acts.take i) x)
  | 0, _, k, hk => by
    obtain ⟨k, rfl⟩ : ∃ m, k = m + 1 := ⟨k - 1, by omega⟩
    simp only [brambleref02_Has.l0]
    rw [if_neg (by omega)]
    rfl
  | i + 1, hi, k, hk => by
    obtain ⟨k, rfl⟩ : ∃ m, k = m + 1 := ⟨k - 1, by omega⟩
    have hlt : i < acts.length := by omega
    have ih := has_l0 acts most x hl i (by omega) k (by omega)
    rw [hasL_take acts x i hlt]
    simp only [brambleref02_Has.l0]
    rw [show (((i + 1 : Nat) : Int) - 1) = (i : Int) by omega, if_pos (by omega), if_pos (by omega), if_pos (by omega), rd_T98_get hlt, wrap_in (by omega), ih]
    by_cases h1 : acts[i].f1 ≤ x
    · rw [if_pos h1]
      by_cases h2 : x ≤ acts[i].f2
      · have hc : covers acts[i] x := ⟨h1, h2⟩
        rw [if_pos h2, if_pos hc]
      · have hc : ¬ covers acts[i] x := fun h => h2 h.2
        rw [if_neg h2, if_neg hc]
    · have hc : ¬ covers acts[i] x := fun h => h1 h.1
      rw [if_neg h1, if_neg hc]
theorem has_f (acts : List S98) (most x : Int) (hl : acts.length ≤ 4398046511104) (k : Nat) (hk : acts.length < k) : brambleref02_Has.f k acts most x = some (hasL acts x) := by
  unfold brambleref02_Has.f
  rw [wrap_in (by omega), has_l0 acts most x hl acts.length (Nat.le_refl _) k hk, List.take_length]

def Sorted (l : List Int) : Prop := l.Pairwise (· < ·)
theorem put_l0 (l : List Int) (x : Int) (hs : Sorted l) (hl : l.length ≤ 8796093022208) : ∀ d i, l.length - i = d → i ≤ l.length → (∀ j (h : j < l.length), j < i → l[j] < x) → ∃ r, (∀ k, d < k → brambleref02_put.l0 k l x (i : Int) = some r) ∧ Sorted r ∧ (∀ y, y ∈ r ↔ y ∈ l ∨ y = x) ∧ r.length ≤ l.length + 1
  | d, i, hd, hi, hlt => by
    have fin : (∀ z, l[i]? = some z → x < z) → Sorted (l.take i ++ [x] ++ l.drop i) ∧ (∀ y, y ∈ l.take i ++ [x] ++ l.drop i ↔ y ∈ l ∨ y = x) ∧ (l.take i ++ [x] ++ l.drop i).length ≤ l.length + 1 := by
      intro hgt
      refine ⟨?_, fun y => ?_, by simp; omega⟩
      · unfold Sorted at hs ⊢
        have h0 := hs
        rw [← List.take_append_drop i l, List.pairwise_append] at h0
        obtain ⟨ha, hb, hc⟩ := h0
        rw [List.pairwise_append, List.pairwise_append]
        have hlow : ∀ a ∈ l.take i, a < x := fun a ha => by
          obtain ⟨j, hj⟩ := List.getElem?_of_mem ha
          have hji : j < i := by have := (List.getElem?_eq_some_iff.1 hj).1; rw [List.length_take] at this; omega
          rw [List.getElem?_take, if_pos hji] at hj
          obtain ⟨h1, rfl⟩ := List.getElem?_eq_some_iff.1 hj
          exact hlt j h1 hji
        have hhigh : ∀ b ∈ l.drop i, x < b := fun b hb2 => by
          obtain ⟨j, hj⟩ := List.getElem?_of_mem hb2
          rw [List.getElem?_drop] at hj
          obtain ⟨h1, rfl⟩ := List.getElem?_eq_some_iff.1 hj
          have h2 := hgt _ (List.getElem?_eq_getElem (show i < l.length by omega))
          rcases Nat.eq_zero_or_pos j with hj0 | hj0
          · subst hj0; exact h2
          · exact Int.lt_trans h2 (List.pairwise_iff_getElem.1 hs i (i + j) (by omega) h1 (by omega))
        refine ⟨⟨ha, List.pairwise_singleton _ _, fun a ha b hb => ?_⟩, hb, fun a ha b hb => ?_⟩
        · obtain rfl := List.mem_singleton.1 hb; exact hlow a ha
        · rcases List.mem_append.1 ha with ha | ha
          · exact hc a ha b hb
          · obtain rfl := List.mem_singleton.1 ha; exact hhigh b hb
      · conv => rhs; rw [← List.take_append_drop i l]
        simp only [List.mem_append, List.mem_singleton]
        constructor
        · rintro ((h | h) | h)
          · exact .inl (.inl h)
          · exact .inr h
          · exact .inl (.inr h)
        · rintro ((h | h) | h)
          · exact .inl (.inl h)
          · exact .inr h
          · exact .inl (.inr h)
    by_cases hil : i < l.length
    · by_cases h1 : l[i] < x
      · cases d with
        | zero => omega
        | succ d =>
          obtain ⟨r, hr, h2⟩ := put_l0 l x hs hl d (i + 1) (by omega) (by omega) (fun j hj hji => by
            rcases Nat.lt_or_eq_of_le (Nat.le_of_lt_succ hji) with h | h
            · exact hlt j hj h
            · subst h; exact h1)
          refine ⟨r, fun k hk => ?_, h2⟩
          obtain ⟨k, rfl⟩ : ∃ m, k = m + 1 := ⟨k - 1, by omega⟩
          simp only [brambleref02_put.l0]
          rw [if_pos (by omega), if_pos (by omega), rd_get hil, if_pos h1, wrap_in (by omega)]
          exact hr k (by omega)
      · by_cases h2 : l[i] = x
        · refine ⟨l, fun k hk => ?_, hs, fun y => ⟨.inl, fun h => h.elim id (fun h => by rw [h, ← h2]; exact List.getElem_mem hil)⟩, by omega⟩
          obtain ⟨k, rfl⟩ : ∃ m, k = m + 1 := ⟨k - 1, by omega⟩
          simp only [brambleref02_put.l0]
          rw [if_pos (by omega), if_pos (by omega), rd_get hil, if_neg h1, if_pos h2]
        · refine ⟨l.take i ++ [x] ++ l.drop i, fun k hk => ?_, fin (fun z hz => by rw [List.getElem?_eq_getElem hil] at hz; cases hz; omega)⟩
          obtain ⟨k, rfl⟩ : ∃ m, k = m + 1 := ⟨k - 1, by omega⟩
          simp only [brambleref02_put.l0]
          rw [if_pos (by omega), if_pos (by omega), rd_get hil, if_neg h1, if_neg h2]
          simp only [Option.bind_some, Int.toNat_natCast, List.nil_append, List.length_nil]
          rw [if_pos (by omega), if_pos (by simp; omega), if_pos (by simp; omega), if_pos (by simp; omega)]
    · refine ⟨l.take i ++ [x] ++ l.drop i, fun k hk => ?_, fin (fun z hz => absurd (List.getElem?_eq_some_iff.1 hz).1 hil)⟩
      obtain ⟨k, rfl⟩ : ∃ m, k = m + 1 := ⟨k - 1, by omega⟩
      simp only [brambleref02_put.l0]
      rw [if_neg (by omega)]
      simp only [Option.bind_some, Int.toNat_natCast, List.nil_append, List.length_nil]
      rw [if_pos (by omega), if_pos (by omega), if_pos (by simp; omega), if_pos (by simp; omega), if_pos (by simp; omega)]
theorem put_f (l : List Int) (x : Int) (hs : Sorted l) (hl : l.length ≤ 8796093022208) : ∃ r, (∀ k, l.length < k → brambleref02_put.f k l x = some r) ∧ Sorted r ∧ (∀ y, y ∈ r ↔ y ∈ l ∨ y = x) ∧ r.length ≤ l.length + 1 := by
  obtain ⟨r, hr, h⟩ := put_l0 l x hs hl l.length 0 (by omega) (Nat.zero_le _) (fun j _ h => by omega)
  exact ⟨r, fun k hk => by unfold brambleref02_put.f; exact hr k hk, h⟩
end Go.Proofs.Ytbaciaolhfmfkaa.Rf
