/- This text is the plain law of the reference's list of runs: it is the list of the longest runs of what is in. -/
import Derived.Test.YtbaciaolhfmfkaaRf
namespace Go.Proofs.Ytbaciaolhfmfkaa.Rf
open Go.RowKit Go.Proofs.YtbaciaolhfmfkaaW.PrintWords Go.Proofs.Ytbaciaolhfmfkaa.Sp Go.Proofs.Ytbaciaolhfmfkaa.PSpansBytes
set_option linter.unusedVariables false
/-- The acts are of a type whose numbers go from lo to most. -/
def Fits (mn most : Int) (acts : List S98) : Prop := ∀ a ∈ acts, mn ≤ a.f1 ∧ a.f2 ≤ most
/-- The places at which something may change. -/
def IsB (most : Int) (acts : List S98) (y : Int) : Prop := ∃ a ∈ acts, a.f1 ≤ a.f2 ∧ (y = a.f1 ∨ (a.f2 < most ∧ y = a.f2 + 1))
theorem IsB_snoc (most : Int) (acts : List S98) (a : S98) (y : Int) : IsB most (acts ++ [a]) y ↔ IsB most acts y ∨ (a.f1 ≤ a.f2 ∧ (y = a.f1 ∨ (a.f2 < most ∧ y = a.f2 + 1))) := by
  unfold IsB
  constructor
  · rintro ⟨b, hb, h⟩
    rcases List.mem_append.1 hb with hb | hb
    · exact .inl ⟨b, hb, h⟩
    · obtain rfl := List.mem_singleton.1 hb; exact .inr h
  · rintro (⟨b, hb, h⟩ | h)
    · exact ⟨b, List.mem_append_left _ hb, h⟩
    · exact ⟨a, List.mem_append_right _ List.mem_cons_self, h⟩
variable {mn most : Int} {acts : List S98}
theorem runs_l0 (hmost : most ≤ 9223372036854775807) (hmn : -9223372036854775808 ≤ mn) (hf : Fits mn most acts) (hl : acts.length ≤ 2199023255552) (r : List S42) (b : List Int) (hb : Sorted b) (hB : ∀ y, y ∈ b ↔ IsB most acts y) (hfin : ∃ K, ∀ k, K ≤ k → brambleref02_Runs.l1 k b [] 0 acts most = some r) :
    ∀ d i, acts.length - i = d → i ≤ acts.length → ∀ (c : List Int), Sorted c → (∀ y, y ∈ c ↔ IsB most (acts.take i) y) → c.length ≤ 2 * i → ∃ K, ∀ k, K ≤ k → brambleref02_Runs.l0 k c (i : Int) acts most = some r
  | d, i, hd, hi, c, hc, hC, hcl => by
    by_cases hil : i < acts.length
    · cases d with
      | zero => omega
      | succ d =>
        have hfa := hf acts[i] (List.getElem_mem hil)
        have htk : acts.take (i + 1) = acts.take i ++ [acts[i]] := List.take_succ_eq_append_getElem hil
        by_cases h1 : acts[i].f2 < acts[i].f1
        · obtain ⟨K, hK⟩ := runs_l0 hmost hmn hf hl r b hb hB hfin d (i + 1) (by omega) (by omega) c hc (fun y => by rw [htk, IsB_snoc, hC]; exact ⟨.inl, fun h => h.elim id (fun h => by omega)⟩) (by omega)
          refine ⟨K + 1, fun k hk => ?_⟩
          obtain ⟨k, rfl⟩ : ∃ m, k = m + 1 := ⟨k - 1, by omega⟩
          simp only [brambleref02_Runs.l0]
          rw [if_pos (by omega), if_pos (by omega), rd_T98_get hil, if_pos h1, wrap_in (by omega)]
          exact hK k (by omega)
        · obtain ⟨c1, e1, s1, m1, n1⟩ := put_f c acts[i].f1 hc (by omega)
          by_cases h2 : acts[i].f2 < most
          · obtain ⟨c2, e2, s2, m2, n2⟩ := put_f c1 (acts[i].f2 + 1) s1 (by omega)
            obtain ⟨K, hK⟩ := runs_l0 hmost hmn hf hl r b hb hB hfin d (i + 1) (by omega) (by omega) c2 s2 (fun y => by
              rw [htk, IsB_snoc, m2, m1, hC]
              constructor
              · rintro ((h | h) | h)
                · exact .inl h
                · exact .inr ⟨by omega, .inl h⟩
                · exact .inr ⟨by omega, .inr ⟨h2, h⟩⟩
              · rintro (h | ⟨_, h | ⟨_, h⟩⟩)
                · exact .inl (.inl h)
                · exact .inl (.inr h)
                · exact .inr h) (by omega)
            refine ⟨K + c.length + c1.length + 2, fun k hk => ?_⟩
            obtain ⟨k, rfl⟩ : ∃ m, k = m + 1 := ⟨k - 1, by omega⟩
            simp only [brambleref02_Runs.l0]
            rw [if_pos (by omega), if_pos (by omega), rd_T98_get hil, if_neg h1, e1 k (by omega), Option.bind_some, if_pos h2, wrap_in (x := acts[i].f2 + 1) (by omega), e2 k (by omega), Option.bind_some, wrap_in (by omega)]
            exact hK k (by omega)
          · obtain ⟨K, hK⟩ := runs_l0 hmost hmn hf hl r b hb hB hfin d (i + 1) (by omega) (by omega) c1 s1 (fun y => by
              rw [htk, IsB_snoc, m1, hC]
              constructor
              · rintro (h | h)
                · exact .inl h
                · exact .inr ⟨by omega, .inl h⟩
              · rintro (h | ⟨_, h | ⟨h, _⟩⟩)
                · exact .inl h
                · exact .inr h
                · exact absurd h h2) (by omega)
            refine ⟨K + c.length + 2, fun k hk => ?_⟩
            obtain ⟨k, rfl⟩ : ∃ m, k = m + 1 := ⟨k - 1, by omega⟩
            simp only [brambleref02_Runs.l0]
            rw [if_pos (by omega), if_pos (by omega), rd_T98_get hil, if_neg h1, e1 k (by omega), Option.bind_some, if_neg h2, wrap_in (by omega)]
            exact hK k (by omega)
    · obtain rfl : i = acts.length := by omega
      rw [List.take_length] at hC
      have hcb : c = b := by
        apply List.Perm.eq_of_pairwise (le := fun a b : Int => a < b) (fun a b _ _ h1 h2 => by omega) hc hb
        rw [List.perm_ext_iff_of_nodup (hc.imp (fun h => by omega)) (hb.imp (fun h => by omega))]
        intro y
        rw [hC, hB]
      subst hcb
      obtain ⟨K, hK⟩ := hfin
      refine ⟨K + 1, fun k hk => ?_⟩
      obtain ⟨k, rfl⟩ : ∃ m, k = m + 1 := ⟨k - 1, by omega⟩
      simp only [brambleref02_Runs.l0]
      rw [if_neg (by omega)]
      exact hK k (by omega)
/-- The boundaries, as a list. -/
theorem bounds_exist (hf : Fits mn most acts) (hl : acts.length ≤ 2199023255552) : ∃ b, Sorted b ∧ (∀ y, y ∈ b ↔ IsB most acts y) ∧ b.length ≤ 2 * acts.length := by
  have : ∀ i, i ≤ acts.length → ∃ b, Sorted b ∧ (∀ y, y ∈ b ↔ IsB most (acts.take i) y) ∧ b.length ≤ 2 * i := by
    intro i
    induction i with
    | zero => intro _; exact ⟨[], List.Pairwise.nil, fun y => ⟨fun h => (by cases h), fun ⟨a, h, _⟩ => (by simp at h)⟩, by simp⟩
    | succ i ih =>
      intro hi
      obtain ⟨c, hc, hC, hcl⟩ := ih (by omega)
      have hil : i < acts.length := by omega
      have htk : acts.take (i + 1) = acts.take i ++ [acts[i]] := List.take_succ_eq_append_getElem hil
      by_cases h1 : acts[i].f2 < acts[i].f1
      · exact ⟨c, hc, fun y => by rw [htk, IsB_snoc, hC]; exact ⟨.inl, fun h => h.elim id (fun h => by omega)⟩, by omega⟩
      · obtain ⟨c1, e1, s1, m1, n1⟩ := put_f c acts[i].f1 hc (by omega)
        by_cases h2 : acts[i].f2 < most
        · obtain ⟨c2, e2, s2, m2, n2⟩ := put_f c1 (acts[i].f2 + 1) s1 (by omega)
          refine ⟨c2, s2, fun y => ?_, by omega⟩
          rw [htk, IsB_snoc, m2, m1, hC]
          constructor
          · rintro ((h | h) | h)
            · exact .inl h
            · exact .inr ⟨by omega, .inl h⟩
            · exact .inr ⟨by omega, .inr ⟨h2, h⟩⟩
          · rintro (h | ⟨_, h | ⟨_, h⟩⟩)
            · exact .inl (.inl h)
            · exact .inl (.inr h)
            · exact .inr h
        · refine ⟨c1, s1, fun y => ?_, by omega⟩
          rw [htk, IsB_snoc, m1, hC]
          constructor
          · rintro (h | h)
            · exact .inl h
            · exact .inr ⟨by omega, .inl h⟩
          · rintro (h | ⟨_, h | ⟨h, _⟩⟩)
            · exact .inl h
            · exact .inr h
            · exact absurd h h2
  obtain ⟨b, h1, h2, h3⟩ := this acts.length (Nat.le_refl _)
  rw [List.take_length] at h2
  exact ⟨b, h1, h2, h3⟩
/-- Where the part behind the i-th place ends. -/
def Bd (b : List Int) (most : Int) (i : Nat) : Int := b.getD i (most + 1)
theorem Bd_in {b : List Int} {most : Int} {i : Nat} (h : i < b.length) : Bd b most i = b[i] := by unfold Bd; simp [h]
theorem Bd_out {b : List Int} {most : Int} {i : Nat} (h : b.length ≤ i) : Bd b most i = most + 1 := by unfold Bd; simp [h]
theorem b_le (hf : Fits mn most acts) {b : List Int} (hB : ∀ y, y ∈ b ↔ IsB most acts y) {y : Int} (hy : y ∈ b) : mn ≤ y ∧ y ≤ most := by
  obtain ⟨a, ha, h1, h2⟩ := (hB y).1 hy
  have := hf a ha
  rcases h2 with rfl | ⟨h2, rfl⟩ <;> omega
theorem Bd_lt (hf : Fits mn most acts) {b : List Int} (hb : Sorted b) (hB : ∀ y, y ∈ b ↔ IsB most acts y) {i : Nat} (hi : i < b.length) : b[i] < Bd b most (i + 1) := by
  rcases Nat.lt_or_ge (i + 1) b.length with h | h
  · rw [Bd_in h]; exact List.pairwise_iff_getElem.1 hb i (i + 1) hi h (by omega)
  · rw [Bd_out h]; have := b_le hf hB (List.getElem_mem hi); omega
theorem between {b : List Int} (hb : Sorted b) {i : Nat} (hi : i < b.length) {y : Int} (hy : y ∈ b) (h : y < Bd b most (i + 1)) : y ≤ b[i] := by
  obtain ⟨j, hj, rfl⟩ := List.mem_iff_getElem.1 hy
  rcases Nat.lt_or_ge i j with hlt | hge
  · exfalso
    have h1 : i + 1 < b.length := by omega
    rw [Bd_in h1] at h
    rcases Nat.lt_or_eq_of_le (show i + 1 ≤ j from hlt) with h2 | h2
    · have := List.pairwise_iff_getElem.1 hb (i + 1) j h1 hj h2; omega
    · subst h2; omega
  · rcases Nat.lt_or_eq_of_le hge with h2 | h2
    · have := List.pairwise_iff_getElem.1 hb j i hj hi h2; omega
    · subst h2; omega
theorem alike (hf : Fits mn most acts) {b : List Int} (hb : Sorted b) (hB : ∀ y, y ∈ b ↔ IsB most acts y) {i : Nat} (hi : i < b.length) {x : Int} (h1 : b[i] ≤ x) (h2 : x < Bd b most (i + 1)) : hasL acts x = hasL acts b[i] := by
  have hxm : x ≤ most := by
    rcases Nat.lt_or_ge (i + 1) b.length with h | h
    · rw [Bd_in h] at h2; have := b_le hf hB (List.getElem_mem h); omega
    · rw [Bd_out h] at h2; omega
  apply hasL_same
  intro a ha
  unfold covers
  by_cases hle : a.f1 ≤ a.f2
  · have e1 : a.f1 ≤ x ↔ a.f1 ≤ b[i] := ⟨fun h => between (most := most) hb hi ((hB _).2 ⟨a, ha, hle, .inl rfl⟩) (by omega), fun h => by omega⟩
    have e2 : x ≤ a.f2 ↔ b[i] ≤ a.f2 := ⟨fun h => by omega, fun h => by
      rcases Int.lt_or_le a.f2 x with hlt | hge
      · have := between (most := most) hb hi ((hB (a.f2 + 1)).2 ⟨a, ha, hle, .inr ⟨by omega, rfl⟩⟩) (by omega)
        omega
      · exact hge⟩
    rw [e1, e2]
  · constructor <;> rintro ⟨h, h'⟩ <;> omega
theorem below_first (hf : Fits mn most acts) {b : List Int} (hb : Sorted b) (hB : ∀ y, y ∈ b ↔ IsB most acts y) {x : Int} (h : x < Bd b most 0) : hasL acts x = false := by
  apply hasL_none
  rintro a ha ⟨h1, h2⟩
  have hm : a.f1 ∈ b := (hB _).2 ⟨a, ha, by omega, .inl rfl⟩
  obtain ⟨j, hj, hje⟩ := List.mem_iff_getElem.1 hm
  rw [Bd_in (by omega)] at h
  rcases Nat.eq_zero_or_pos j with h0 | h0
  · subst h0; omega
  · have := List.pairwise_iff_getElem.1 hb 0 j (by omega) hj h0; omega
def toR (l : List S42) : List Run := l.map (fun s => (s.f0, s.f1))
theorem toR_app (l m : List S42) : toR (l ++ m) = toR l ++ toR m := by simp [toR]
theorem toR_len (l : List S42) : (toR l).length = l.length := by simp [toR]
theorem last_of {l : List Run} (h : l ≠ []) : ∃ i z, l = i ++ [z] := by
  rcases List.eq_nil_or_concat l with rfl | ⟨i, z, rfl⟩
  · exact absurd rfl h
  · exact ⟨i, z, by simp⟩
theorem good_snoc {mn mx : Int} {R : List Run} {z : Run} (h : Sp.Good mn mx R) (hz : mn ≤ z.1 ∧ z.1 ≤ z.2 ∧ z.2 ≤ mx) (hg : ∀ r ∈ R, r.2 + 1 < z.1) : Sp.Good mn mx (R ++ [z]) :=
  ⟨fun r hr => (List.mem_append.1 hr).elim (h.ok r) (fun hr => by rw [List.mem_singleton.1 hr]; exact hz), List.pairwise_append.2 ⟨h.gap, List.pairwise_singleton _ _, fun a ha b hb => by rw [List.mem_singleton.1 hb]; exact hg a ha⟩⟩
theorem good_init {mn mx : Int} {R : List Run} {z : Run} (h : Sp.Good mn mx (R ++ [z])) : Sp.Good mn mx R ∧ (mn ≤ z.1 ∧ z.1 ≤ z.2 ∧ z.2 ≤ mx) ∧ ∀ r ∈ R, r.2 + 1 < z.1 := by
  have hp := List.pairwise_append.1 h.gap
  exact ⟨⟨fun r hr => h.ok r (List.mem_append_left _ hr), hp.1⟩, h.ok z (List.mem_append_right _ List.mem_cons_self), fun r hr => hp.2.2 r hr z List.mem_cons_self⟩
theorem set_last (l : List S42) (z y : S42) : (l ++ [z]).set l.length y = l ++ [y] := by simp
/-- The second loop: what has been told so far is what is in, as far as it goes. -/
theorem runs_l1 (hmost : most ≤ 9223372036854775807) (hmn : -9223372036854775808 ≤ mn) (hf : Fits mn most acts) (hl : acts.length ≤ 2199023255552) (b : List Int) (hb : Sorted b) (hB : ∀ y, y ∈ b ↔ IsB most acts y) (hbl : b.length ≤ 2 * acts.length) :
    ∀ d i, b.length - i = d → i ≤ b.length → ∀ (out : List S42), out.length ≤ i → Sp.Good mn most (toR out) → (∀ x, mem (toR out) x ↔ hasL acts x = true ∧ x < Bd b most i) →
      ∃ r K, (∀ k, K ≤ k → brambleref02_Runs.l1 k b out (i : Int) acts most = some r) ∧ Sp.Good mn most (toR r) ∧ ∀ x, mem (toR r) x ↔ hasL acts x = true ∧ x ≤ most
  | d, i, hd, hi, out, hol, hg, hm => by
    by_cases hil : i < b.length
    · cases d with
      | zero => omega
      | succ d =>
        have hbm := b_le hf hB (List.getElem_mem hil)
        have hlt := Bd_lt hf hb hB hil
        have hBi : Bd b most i = b[i] := Bd_in hil
        rw [hBi] at hm
        have hne : Bd b most (i + 1) ≤ most + 1 := by
          rcases Nat.lt_or_ge (i + 1) b.length with h | h
          · rw [Bd_in h]; have := b_le hf hB (List.getElem_mem h); omega
          · rw [Bd_out h]; omega
        cases hh : hasL acts b[i] with
        | false =>
          obtain ⟨r, K, hK, h1, h2⟩ := runs_l1 hmost hmn hf hl b hb hB hbl d (i + 1) (by omega) (by omega) out (by omega) hg (fun x => by
            rw [hm]
            constructor
            · rintro ⟨h1, h2⟩; exact ⟨h1, by omega⟩
            · rintro ⟨h1, h2⟩
              refine ⟨h1, ?_⟩
              rcases Int.lt_or_le x b[i] with h | h
              · exact h
              · rw [alike hf hb hB hil h h2, hh] at h1; cases h1)
          refine ⟨r, K + acts.length + 2, fun k hk => ?_, h1, h2⟩
          obtain ⟨k, rfl⟩ : ∃ m, k = m + 1 := ⟨k - 1, by omega⟩
          simp only [brambleref02_Runs.l1]
          rw [if_pos (by omega), if_pos (by omega), rd_get hil, has_f acts most _ (by omega) k (by omega), Option.bind_some, hh, if_neg (by simp), wrap_in (by omega)]
          exact hK k (by omega)
        | true =>
          -- the run that is told now ends ahead of the next place
          have hnext : ∀ x, b[i] ≤ x → x < Bd b most (i + 1) → hasL acts x = true := fun x h1 h2 => by rw [alike hf hb hB hil h1 h2, hh]
          have happ : (∀ r ∈ toR out, r.2 + 1 < b[i]) → Sp.Good mn most (toR (out ++ [⟨b[i], Bd b most (i + 1) - 1⟩])) ∧ ∀ x, mem (toR (out ++ [⟨b[i], Bd b most (i + 1) - 1⟩])) x ↔ hasL acts x = true ∧ x < Bd b most (i + 1) := fun hgap => by
            rw [toR_app]
            refine ⟨good_snoc hg ⟨hbm.1, by simp only; omega, by simp only; omega⟩ hgap, fun x => ?_⟩
            rw [mem_app, hm]
            simp only [toR, List.map_cons, List.map_nil]
            rw [mem_one]
            simp only
            constructor
            · rintro (⟨h1, h2⟩ | ⟨h1, h2⟩)
              · exact ⟨h1, by omega⟩
              · exact ⟨hnext x h1 (by omega), by omega⟩
            · rintro ⟨h1, h2⟩
              rcases Int.lt_or_le x b[i] with h | h
              · exact .inl ⟨h1, h⟩
              · exact .inr ⟨h, by omega⟩
          by_cases hpos : 0 < i ∧ hasL acts (b.getD (i - 1) 0) = true
          · obtain ⟨hi0, hp⟩ := hpos
            have hi1 : i - 1 < b.length := by omega
            have hpe : b.getD (i - 1) 0 = b[i - 1] := by simp [hi1]
            rw [hpe] at hp
            have hlt1 : b[i - 1] < b[i] := List.pairwise_iff_getElem.1 hb (i - 1) i hi1 hil (by omega)
            have hbd1 : Bd b most (i - 1 + 1) = b[i] := by rw [show i - 1 + 1 = i by omega]; exact hBi
            have hin : mem (toR out) (b[i] - 1) := (hm _).2 ⟨by rw [alike hf hb hB hi1 (x := b[i] - 1) (by omega) (by rw [hbd1]; omega), hp], by omega⟩
            have hnn : out ≠ [] := fun e => by rw [e] at hin; exact mem_nil _ hin
            rcases List.eq_nil_or_concat out with e | ⟨ini, z, e⟩
            · exact absurd e hnn
            · rw [List.concat_eq_append] at e
              subst e
              rw [toR_app] at hg hm hin
              have hz1 : toR [z] = [(z.f0, z.f1)] := rfl
              rw [hz1] at hg hm hin
              obtain ⟨g1, g2, g3⟩ := good_init hg
              have hz2 : z.f1 = b[i] - 1 := by
                have h1 : z.f1 < b[i] := ((hm z.f1).1 ((mem_app _ _ _).2 (.inr ((mem_one _ _).2 ⟨g2.2.1, Int.le_refl _⟩)))).2
                rcases (mem_app _ _ _).1 hin with h | h
                · obtain ⟨q, hq, ha, hb'⟩ := h
                  have := g3 q hq
                  have := g2.2.1
                  simp only at *
                  omega
                · have := (mem_one _ _).1 h
                  simp only at this
                  omega
              have hgood : Sp.Good mn most (toR (ini ++ [⟨z.f0, Bd b most (i + 1) - 1⟩])) := by
                rw [toR_app]
                exact good_snoc g1 ⟨g2.1, by have := g2.2.1; simp only at *; omega, by simp only; omega⟩ g3
              have hmem : ∀ x, mem (toR (ini ++ [⟨z.f0, Bd b most (i + 1) - 1⟩])) x ↔ hasL acts x = true ∧ x < Bd b most (i + 1) := fun x => by
                have h0 := hm x
                rw [mem_app, mem_one] at h0
                rw [toR_app, mem_app]
                have hz3 : toR [(⟨z.f0, Bd b most (i + 1) - 1⟩ : S42)] = [(z.f0, Bd b most (i + 1) - 1)] := rfl
                rw [hz3, mem_one]
                simp only at h0 ⊢
                constructor
                · rintro (h | ⟨h1, h2⟩)
                  · have := h0.1 (.inl h); exact ⟨this.1, by omega⟩
                  · rcases Int.lt_or_le x b[i] with h | h
                    · have := h0.1 (.inr ⟨h1, by omega⟩); exact ⟨this.1, by omega⟩
                    · exact ⟨hnext x h (by omega), by omega⟩
                · rintro ⟨h1, h2⟩
                  rcases Int.lt_or_le x b[i] with h | h
                  · rcases h0.2 ⟨h1, h⟩ with h3 | h3
                    · exact .inl h3
                    · exact .inr ⟨h3.1, by omega⟩
                  · exact .inr ⟨by have := g2.2.1; simp only at this; omega, by omega⟩
              obtain ⟨r, K, hK, h1, h2⟩ := runs_l1 hmost hmn hf hl b hb hB hbl d (i + 1) (by omega) (by omega) _ (by simp at hol ⊢; omega) hgood hmem
              have hlen : (((ini ++ [z]).length : Nat) : Int) - 1 = (ini.length : Int) := by simp
              have hrd : rd_T42 (ini ++ [z]) (ini.length : Int) = z := by rw [rd_T42_get (by simp)]; simp
              have hol' : ini.length + 1 ≤ i := by simpa using hol
              refine ⟨r, K + acts.length + 2, fun k hk => ?_, h1, h2⟩
              obtain ⟨k, rfl⟩ : ∃ m, k = m + 1 := ⟨k - 1, by omega⟩
              simp only [brambleref02_Runs.l1]
              rw [if_pos (by omega), if_pos (by omega), rd_get hil, has_f acts most _ (by omega) k (by omega), Option.bind_some, hh, if_pos rfl]
              rw [wrap_in (x := (i : Int) + 1) (by omega), wrap_in (x := (i : Int) - 1) (by omega), show ((i : Int) - 1) = ((i - 1 : Nat) : Int) by omega, rd_get hi1, has_f acts most _ (by omega) k (by omega), hp, hlen, wrap_in (x := (ini.length : Int)) (by omega), hrd]
              by_cases hlast : i + 1 < b.length
              · have e1 : rd b ((i : Int) + 1) = b[i + 1] := by rw [show ((i : Int) + 1) = ((i + 1 : Nat) : Int) by omega, rd_get hlast]
                have hb1 := b_le hf hB (List.getElem_mem hlast)
                have hlt2 := hlt
                rw [Bd_in hlast] at hlt2
                rw [if_pos (by omega), if_pos (by omega), if_pos (by omega), if_pos (by omega), if_pos (by omega), Option.bind_some, if_pos rfl, if_pos (by omega), if_pos (by simp; omega), Int.toNat_natCast, set_last, e1, wrap_in (x := b[i + 1] - 1) (by omega)]
                rw [Bd_in hlast] at hK
                exact hK k (by omega)
              · rw [if_neg (by omega), if_pos (by omega), if_pos (by omega), if_pos (by omega), Option.bind_some, if_pos rfl, if_pos (by omega), if_pos (by simp; omega), Int.toNat_natCast, set_last]
                rw [Bd_out (by omega), show most + 1 - 1 = most by omega] at hK
                exact hK k (by omega)
          · have hgap : ∀ r ∈ toR out, r.2 + 1 < b[i] := by
              intro q hq
              have hok := hg.ok q hq
              have hq2 := (hm q.2).1 ⟨q, hq, hok.2.1, Int.le_refl _⟩
              rcases Nat.eq_zero_or_pos i with h0 | h0
              · subst h0
                have := below_first hf hb hB (x := q.2) (by rw [hBi]; exact hq2.2)
                rw [this] at hq2; cases hq2.1
              · have hi1 : i - 1 < b.length := by omega
                have hpe : b.getD (i - 1) 0 = b[i - 1] := by simp [hi1]
                have hp : hasL acts b[i - 1] = false := by
                  cases h : hasL acts b[i - 1] with
                  | false => rfl
                  | true => exact absurd ⟨h0, by rw [hpe]; exact h⟩ hpos
                have hlt1 : b[i - 1] < b[i] := List.pairwise_iff_getElem.1 hb (i - 1) i hi1 hil (by omega)
                rcases Int.lt_or_le q.2 b[i - 1] with h | h
                · omega
                · have := alike hf hb hB hi1 (x := q.2) h (by rw [show i - 1 + 1 = i by omega, hBi]; exact hq2.2)
                  rw [hq2.1, hp] at this; cases this
            obtain ⟨a1, a2⟩ := happ hgap
            obtain ⟨r, K, hK, h1, h2⟩ := runs_l1 hmost hmn hf hl b hb hB hbl d (i + 1) (by omega) (by omega) _ (by simp; omega) a1 a2
            refine ⟨r, K + acts.length + 2, fun k hk => ?_, h1, h2⟩
            obtain ⟨k, rfl⟩ : ∃ m, k = m + 1 := ⟨k - 1, by omega⟩
            simp only [brambleref02_Runs.l1]
            rw [if_pos (by omega), if_pos (by omega), rd_get hil, has_f acts most _ (by omega) k (by omega), Option.bind_some, hh, if_pos rfl, wrap_in (x := (i : Int) + 1) (by omega)]
            have fin : ∀ e, e = Bd b most (i + 1) - 1 → (if (out.length : Nat) < 8796093022208 then brambleref02_Runs.l1 k b (out ++ [(⟨b[i], e⟩ : S42)]) ((i : Int) + 1) acts most else none) = some r := fun e he => by
              rw [if_pos (by omega), he]
              exact hK k (by omega)
            have hprev : ∀ e, e = Bd b most (i + 1) - 1 → ∀ (X : Option (List S42)), (if (i : Int) > 0 then (if 0 ≤ wrap64 ((i : Int) - 1) then (if wrap64 ((i : Int) - 1) < (b.length : Int) then ((brambleref02_Has.f k acts most (rd b (wrap64 ((i : Int) - 1)))).bind fun t => if t = true then X else (if (out.length : Nat) < 8796093022208 then brambleref02_Runs.l1 k b (out ++ [(⟨b[i], e⟩ : S42)]) ((i : Int) + 1) acts most else none)) else none) else none) else (if (out.length : Nat) < 8796093022208 then brambleref02_Runs.l1 k b (out ++ [(⟨b[i], e⟩ : S42)]) ((i : Int) + 1) acts most else none)) = some r := fun e he X => by
              rcases Nat.eq_zero_or_pos i with h0 | h0
              · rw [if_neg (by omega)]
                exact fin e he
              · have hi1 : i - 1 < b.length := by omega
                have hpe : b.getD (i - 1) 0 = b[i - 1] := by simp [hi1]
                have hp : hasL acts b[i - 1] = false := by
                  cases h : hasL acts b[i - 1] with
                  | false => rfl
                  | true => exact absurd ⟨h0, by rw [hpe]; exact h⟩ hpos
                rw [if_pos (by omega), wrap_in (x := (i : Int) - 1) (by omega), if_pos (by omega), if_pos (by omega), show ((i : Int) - 1) = ((i - 1 : Nat) : Int) by omega, rd_get hi1, has_f acts most _ (by omega) k (by omega), Option.bind_some, hp, if_neg (by simp)]
                exact fin e he
            by_cases hlast : i + 1 < b.length
            · have e1 : rd b ((i : Int) + 1) = b[i + 1] := by rw [show ((i : Int) + 1) = ((i + 1 : Nat) : Int) by omega, rd_get hlast]
              have hb1 := b_le hf hB (List.getElem_mem hlast)
              have hlt2 := hlt
              rw [Bd_in hlast] at hlt2
              rw [if_pos (by omega), if_pos (by omega), e1, wrap_in (x := b[i + 1] - 1) (by omega)]
              exact hprev _ (by rw [Bd_in hlast]) _
            · rw [if_neg (by omega)]
              exact hprev _ (by rw [Bd_out (by omega)]; omega) _
    · obtain rfl : i = b.length := by omega
      refine ⟨out, 1, fun k hk => ?_, hg, fun x => ?_⟩
      · obtain ⟨k, rfl⟩ : ∃ m, k = m + 1 := ⟨k - 1, by omega⟩
        simp only [brambleref02_Runs.l1]
        rw [if_neg (by omega)]
      · rw [hm, Bd_out (Nat.le_refl _)]
        constructor <;> rintro ⟨h1, h2⟩ <;> exact ⟨h1, by omega⟩
theorem runs_f (hmost : most ≤ 9223372036854775807) (hmn : -9223372036854775808 ≤ mn) (hf : Fits mn most acts) (hl : acts.length ≤ 2199023255552) : ∃ r, Ev (fun k => brambleref02_Runs.f k acts most) r ∧ Sp.Good mn most (toR r) ∧ ∀ x, mem (toR r) x ↔ hasL acts x = true ∧ x ≤ most := by
  obtain ⟨b, h1, h2, h3⟩ := bounds_exist hf hl
  obtain ⟨r, K, hK, g1, g2⟩ := runs_l1 hmost hmn hf hl b h1 h2 h3 b.length 0 (by omega) (Nat.zero_le _) [] (by simp) good_nil (fun x => ⟨fun h => absurd h (mem_nil _), fun ⟨ha, hb⟩ => by rw [below_first hf h1 h2 hb] at ha; cases ha⟩)
  obtain ⟨K2, hK2⟩ := runs_l0 hmost hmn hf hl r b h1 h2 ⟨K, hK⟩ acts.length 0 (by omega) (Nat.zero_le _) [] List.Pairwise.nil (fun y => ⟨fun h => (by cases h), fun ⟨a, h, _⟩ => (by simp at h)⟩) (by simp)
  exact ⟨r, ⟨K2, fun k hk => by unfold brambleref02_Runs.f; exact hK2 k hk⟩, g1, g2⟩
end Go.Proofs.Ytbaciaolhfmfkaa.Rf
