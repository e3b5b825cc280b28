/- This text proves what the reference's functions answer of a list of things with numbers, in plain Lean, and how that list lies beside a table's places. -/
import Derived.Test.YtiocnkoogachkaaTg
import Derived.Test.YtiocnkoogachkaaRr
namespace Go.Proofs.Ytiocnkoogachkaa.Rs
open Go.RowKit Go.Proofs.YtiocnkoogachkaaW.PrintWords Go.Proofs.Ytiocnkoogachkaa.Hp Go.Proofs.Ytiocnkoogachkaa.Tg Go.Proofs.Ytiocnkoogachkaa.PSlotsPlays
set_option linter.unusedVariables false
theorem w64 {n : Int} (h0 : -9223372036854775808 ≤ n) (h1 : n < 9223372036854775808) : wrap64 n = n := by unfold wrap64; omega
theorem rd_get {M : List S47} {i : Nat} {x : S47} (h : M[i]? = some x) : rd_T47 M (i : Int) = x := by
  unfold rd_T47
  rw [Int.toNat_natCast, List.getD_eq_getElem?_getD, h]
  rfl
/-- Where the thing at i stands in the reference's list. -/
def fi (M : List S47) (i : Int) : Int := match M.findIdx? (fun x => decide (x.f0 = i)) with
  | some k => k
  | none => -1
theorem fi_none {M : List S47} {i : Int} (h : ∀ x, x ∈ M → x.f0 ≠ i) : fi M i = -1 := by
  have : M.findIdx? (fun x => decide (x.f0 = i)) = none := by
    rw [List.findIdx?_eq_none_iff]
    intro x hx
    simpa using h x hx
  unfold fi
  rw [this]
theorem fi_some {M : List S47} {i : Int} {k : Nat} {x : S47} (hx : M[k]? = some x) (hi : x.f0 = i) (hn : ∀ q y, q < k → M[q]? = some y → y.f0 ≠ i) : fi M i = k := by
  have hlt := (List.getElem?_eq_some_iff.1 hx).1
  have : M.findIdx? (fun x => decide (x.f0 = i)) = some k := by
    rw [List.findIdx?_eq_some_iff_getElem]
    refine ⟨hlt, ?_, fun j hj => ?_⟩
    · rw [List.getElem?_eq_getElem hlt] at hx
      cases hx
      simpa using hi
    · have := hn j M[j] hj (List.getElem?_eq_getElem (by omega))
      simpa using this
  unfold fi
  rw [this]
theorem find_l0 (M : List S47) (a0 i : Int) (hn : M.length < 1048576) (d : Nat) : ∀ n j : Nat, j + n = M.length → (∀ q x, q < j → M[q]? = some x → x.f0 ≠ i) → brambleref04_Find.l0 (n + d + 1) i j a0 M = some (fi M i)
  | 0, j, hj, hp => by
    rw [fi_none (fun x hx => by
      obtain ⟨q, hq⟩ := List.getElem?_of_mem hx
      exact hp q x (by have := (List.getElem?_eq_some_iff.1 hq).1; omega) hq)]
    rw [brambleref04_Find.l0, if_neg (by omega)]
  | n + 1, j, hj, hp => by
    obtain ⟨x, hx⟩ : ∃ x, M[j]? = some x := ⟨_, List.getElem?_eq_getElem (by omega)⟩
    rw [brambleref04_Find.l0, if_pos (by omega), if_pos (by omega), rd_get hx]
    by_cases h : x.f0 = i
    · rw [if_pos h, fi_some hx h hp]
    · rw [if_neg h, w64 (by omega) (by omega), show n + 1 + d = n + d + 1 by omega]
      exact find_l0 M a0 i hn d n (j + 1) (by omega) (fun q y hq hy => by
        rcases Nat.lt_or_ge q j with h1 | h1
        · exact hp q y h1 hy
        · obtain rfl : q = j := by omega
          rw [hx] at hy; cases hy; exact h)
theorem find_f {M : List S47} (hn : M.length < 1048576) {k : Nat} (hk : M.length + 1 ≤ k) (a0 i : Int) : brambleref04_Find.f k a0 M i = some (fi M i) := by
  obtain ⟨d, rfl⟩ : ∃ d, k = M.length + d + 1 := ⟨k - M.length - 1, by omega⟩
  exact find_l0 M a0 i hn d M.length 0 (by omega) (fun q x hq => by omega)
/-- The reference's list beside the places. -/
structure RM (Ps : List (It Int Bool)) (M : List S47) : Prop where
  nd : (M.map (·.f0)).Nodup
  iff : ∀ i x : Int, (⟨i, x⟩ : S47) ∈ M ↔ ∃ (j : Nat) (p : It Int Bool), i = (j : Int) + 1 ∧ Ps[j]? = some p ∧ p.rank = true ∧ p.key = x
section
variable {Ps : List (It Int Bool)} {M : List S47}
theorem nd_at (h : (M.map (·.f0)).Nodup) {q k : Nat} {x y : S47} (hx : M[q]? = some x) (hy : M[k]? = some y) (e : x.f0 = y.f0) : q = k := by
  have h1 : (M.map (·.f0))[q]? = some x.f0 := by rw [List.getElem?_map, hx]; rfl
  have h2 : (M.map (·.f0))[k]? = some x.f0 := by rw [List.getElem?_map, hy, e]; rfl
  exact (List.getElem?_inj (List.getElem?_eq_some_iff.1 h1).1 h).1 (h1.trans h2.symm)
theorem RM.nil : RM [] [] := ⟨List.nodup_nil, fun i x => ⟨fun h => (by cases h), fun ⟨j, p, _, h, _⟩ => (by simp at h)⟩⟩
theorem RM.held (h : RM Ps M) {j : Nat} {p : It Int Bool} (hp : Ps[j]? = some p) (hr : p.rank = true) : ∃ k : Nat, fi M ((j : Int) + 1) = k ∧ M[k]? = some ⟨(j : Int) + 1, p.key⟩ := by
  obtain ⟨k, hk⟩ := List.getElem?_of_mem ((h.iff _ _).2 ⟨j, p, rfl, hp, hr, rfl⟩)
  exact ⟨k, fi_some hk rfl (fun q y hq hy e => by have := nd_at h.nd hy hk e; omega), hk⟩
theorem RM.free (h : RM Ps M) {i : Int} (hf : ∀ (j : Nat) (p : It Int Bool), i = (j : Int) + 1 → Ps[j]? = some p → p.rank = false) : fi M i = -1 := fi_none (fun x hx e => by
  obtain ⟨j, p, h1, h2, h3, _⟩ := (h.iff x.f0 x.f1).1 hx
  rw [hf j p (by rw [← e]; exact h1) h2] at h3
  cases h3)
theorem RM.pos (h : RM Ps M) {x : S47} (hx : x ∈ M) : 1 ≤ x.f0 := by
  obtain ⟨j, p, h1, _⟩ := (h.iff x.f0 x.f1).1 hx
  omega
theorem RM.put (h : RM Ps M) {j : Nat} (hf : ∀ p, Ps[j]? = some p → p.rank = false) (z x : Int) : RM ((ext z Ps (j + 1)).set j ⟨x, true, 0⟩) (M ++ [⟨(j : Int) + 1, x⟩]) := by
  have hnew : ∀ y, y ∈ M → y.f0 ≠ (j : Int) + 1 := fun y hy e => by
    obtain ⟨q, p, h1, h2, h3, _⟩ := (h.iff y.f0 y.f1).1 hy
    obtain rfl : q = j := by omega
    rw [hf p h2] at h3
    cases h3
  have hlen : j < (ext z Ps (j + 1)).length := by simp [ext]; omega
  have hext : ∀ (q : Nat) (p : It Int Bool), p.rank = true → ((ext z Ps (j + 1))[q]? = some p ↔ Ps[q]? = some p) := fun q p hr => by
    unfold ext
    rcases Nat.lt_or_ge q Ps.length with hq | hq
    · rw [List.getElem?_append_left hq]
    · rw [List.getElem?_append_right hq]
      constructor
      · intro hm
        have := List.mem_of_getElem? hm
        rw [(List.mem_replicate.1 this).2] at hr
        cases hr
      · intro hm
        have := (List.getElem?_eq_some_iff.1 hm).1
        omega
  constructor
  · rw [List.map_append, List.nodup_append]
    refine ⟨h.nd, by simp, fun a ha b hb => ?_⟩
    obtain ⟨y, hy, rfl⟩ := List.mem_map.1 ha
    simp at hb
    rw [hb]
    exact hnew y hy
  · intro i y
    rw [List.mem_append, List.mem_singleton, h.iff]
    constructor
    · rintro (⟨q, p, h1, h2, h3, h4⟩ | e)
      · refine ⟨q, p, h1, ?_, h3, h4⟩
        rw [List.getElem?_set_ne (by rintro rfl; rw [hf p h2] at h3; cases h3)]
        exact (hext q p h3).2 h2
      · cases e
        exact ⟨j, _, rfl, List.getElem?_set_self hlen, rfl, rfl⟩
    · rintro ⟨q, p, h1, h2, h3, h4⟩
      by_cases e : j = q
      · subst e
        rw [List.getElem?_set_self hlen] at h2
        cases h2
        right
        rw [h1, ← h4]
      · rw [List.getElem?_set_ne e] at h2
        exact .inl ⟨q, p, h1, (hext q p h3).1 h2, h3, h4⟩
theorem mem_set_iff {α : Type} {l : List α} {k : Nat} {a b : α} (hk : k < l.length) : b ∈ l.set k a ↔ b = a ∨ ∃ i, i ≠ k ∧ l[i]? = some b := by
  constructor
  · intro h
    obtain ⟨i, hi⟩ := List.getElem?_of_mem h
    by_cases e : k = i
    · subst e
      rw [List.getElem?_set_self hk] at hi
      cases hi
      exact .inl rfl
    · rw [List.getElem?_set_ne e] at hi
      exact .inr ⟨i, fun h => e h.symm, hi⟩
  · rintro (rfl | ⟨i, h1, h2⟩)
    · exact List.mem_of_getElem? (i := k) (List.getElem?_set_self hk)
    · exact List.mem_of_getElem? (i := i) (by rw [List.getElem?_set_ne (fun h => h1 h.symm)]; exact h2)
theorem RM.set_ (h : RM Ps M) {j k : Nat} {p : It Int Bool} (hp : Ps[j]? = some p) (hr : p.rank = true) (hk : M[k]? = some ⟨(j : Int) + 1, p.key⟩) (x : Int) : RM (Ps.set j ⟨x, true, 0⟩) (M.set k ⟨(j : Int) + 1, x⟩) := by
  have hkl := (List.getElem?_eq_some_iff.1 hk).1
  have hjl := (List.getElem?_eq_some_iff.1 hp).1
  constructor
  · have : (M.set k ⟨(j : Int) + 1, x⟩).map (·.f0) = M.map (·.f0) := by
      rw [List.map_set]
      apply List.ext_getElem?
      intro q
      by_cases e : k = q
      · subst e
        rw [List.getElem?_set_self (by simpa using hkl), List.getElem?_map, hk]
        rfl
      · rw [List.getElem?_set_ne e]
    rw [this]
    exact h.nd
  · intro i y
    rw [mem_set_iff hkl]
    constructor
    · rintro (e | ⟨q, hq, hy⟩)
      · cases e
        exact ⟨j, _, rfl, List.getElem?_set_self hjl, rfl, rfl⟩
      · obtain ⟨q2, p2, h1, h2, h3, h4⟩ := (h.iff i y).1 (List.mem_of_getElem? hy)
        refine ⟨q2, p2, h1, ?_, h3, h4⟩
        rw [List.getElem?_set_ne]
        · exact h2
        · rintro rfl
          exact hq (nd_at h.nd hy hk h1)
    · rintro ⟨q, p2, h1, h2, h3, h4⟩
      by_cases e : j = q
      · subst e
        rw [List.getElem?_set_self hjl] at h2
        cases h2
        left
        rw [h1, ← h4]
      · rw [List.getElem?_set_ne e] at h2
        obtain ⟨q2, hq2⟩ := List.getElem?_of_mem ((h.iff i y).2 ⟨q, p2, h1, h2, h3, h4⟩)
        refine .inr ⟨q2, ?_, hq2⟩
        rintro rfl
        rw [hk] at hq2
        cases hq2
        omega
theorem RM.drop (h : RM Ps M) {j k : Nat} {p : It Int Bool} (hp : Ps[j]? = some p) (hr : p.rank = true) (hk : M[k]? = some ⟨(j : Int) + 1, p.key⟩) (z : Int) : RM (Ps.set j ⟨z, false, 0⟩) (M.take k ++ M.drop (k + 1)) := by
  have hkl := (List.getElem?_eq_some_iff.1 hk).1
  have hjl := (List.getElem?_eq_some_iff.1 hp).1
  rw [← List.eraseIdx_eq_take_drop_succ]
  constructor
  · exact (List.Sublist.map _ (List.eraseIdx_sublist M k)).nodup h.nd
  · intro i y
    rw [List.mem_eraseIdx_iff_getElem?]
    constructor
    · rintro ⟨q, hq, hy⟩
      obtain ⟨q2, p2, h1, h2, h3, h4⟩ := (h.iff i y).1 (List.mem_of_getElem? hy)
      refine ⟨q2, p2, h1, ?_, h3, h4⟩
      rw [List.getElem?_set_ne]
      · exact h2
      · rintro rfl
        exact hq (nd_at h.nd hy hk h1)
    · rintro ⟨q, p2, h1, h2, h3, h4⟩
      by_cases e : j = q
      · subst e
        rw [List.getElem?_set_self hjl] at h2
        cases h2
        cases h3
      · rw [List.getElem?_set_ne e] at h2
        obtain ⟨q2, hq2⟩ := List.getElem?_of_mem ((h.iff i y).2 ⟨q, p2, h1, h2, h3, h4⟩)
        refine ⟨q2, ?_, hq2⟩
        rintro rfl
        rw [hk] at hq2
        cases hq2
        omega
end
/-- What the least free number is. -/
theorem free_cases {α : Type} (Ps : List (It α Bool)) {m : Nat} (hm : Ps.length ≤ m) :
    (∃ j, freeOf Ps m = j + 1 ∧ j < m ∧ (∀ p, Ps[j]? = some p → p.rank = false) ∧ ∀ q, q < j → ∃ p, Ps[q]? = some p ∧ p.rank = true) ∨ (freeOf Ps m = 0 ∧ ∀ q, q < m → ∃ p, Ps[q]? = some p ∧ p.rank = true) := by
  cases h : Ps.findIdx? (fun x => !x.rank) with
  | some j =>
    have hf : freeOf Ps m = j + 1 := by unfold freeOf; rw [h]
    obtain ⟨hlt, h1, h2⟩ := List.findIdx?_eq_some_iff_getElem.1 h
    refine .inl ⟨j, hf, by omega, fun p hp => ?_, fun q hq => ?_⟩
    · rw [List.getElem?_eq_getElem hlt] at hp
      cases hp
      simpa using h1
    · exact ⟨_, List.getElem?_eq_getElem (by omega), by simpa using h2 q hq⟩
  | none =>
    have hall : ∀ q, q < Ps.length → ∃ p, Ps[q]? = some p ∧ p.rank = true := fun q hq => by
      have := (List.findIdx?_eq_none_iff.1 h) Ps[q] (List.getElem_mem hq)
      exact ⟨_, List.getElem?_eq_getElem hq, by simpa using this⟩
    by_cases hl : Ps.length < m
    · refine .inl ⟨Ps.length, by unfold freeOf; rw [h]; simp only [if_pos hl], hl, fun p hp => ?_, hall⟩
      have := (List.getElem?_eq_some_iff.1 hp).1
      omega
    · exact .inr ⟨by unfold freeOf; rw [h]; simp only [if_neg hl], fun q hq => hall q (by omega)⟩
section
variable {Ps : List (It Int Bool)} {M : List S47}
theorem free_l0 (h : RM Ps M) (hn : M.length < 1048576) {m : Nat} (hm : Ps.length ≤ m) (hm2 : m ≤ 65536) (d : Nat) (hd : M.length + 1 ≤ d) : ∀ n i : Nat, i + n = m → (∀ q, q < i → ∃ p, Ps[q]? = some p ∧ p.rank = true) → brambleref04_Free.l0 (n + d + 1) ((i : Int) + 1) m M = some (freeOf Ps m : Int)
  | 0, i, hi, hp => by
    have hf : freeOf Ps m = 0 := by
      rcases free_cases Ps hm with ⟨j, h1, h2, h3, _⟩ | ⟨h1, _⟩
      · obtain ⟨p, hp1, hp2⟩ := hp j (by omega)
        rw [h3 p hp1] at hp2
        cases hp2
      · exact h1
    rw [brambleref04_Free.l0, if_neg (by omega), hf]
    rfl
  | n + 1, i, hi, hp => by
    rw [brambleref04_Free.l0, if_pos (by omega), find_f hn (by omega)]
    simp only [Option.bind_some]
    by_cases hh : ∃ p, Ps[i]? = some p ∧ p.rank = true
    · obtain ⟨p, hp1, hp2⟩ := hh
      obtain ⟨k, hk, _⟩ := h.held hp1 hp2
      rw [hk, if_neg (by omega), w64 (by omega) (by omega), show ((i : Int) + 1 + 1) = ((i + 1 : Nat) : Int) + 1 by omega, show n + 1 + d = n + d + 1 by omega]
      exact free_l0 h hn hm hm2 d hd n (i + 1) (by omega) (fun q hq => by
        rcases Nat.lt_or_ge q i with h1 | h1
        · exact hp q h1
        · obtain rfl : q = i := by omega
          exact ⟨p, hp1, hp2⟩)
    · have hno : ∀ p, Ps[i]? = some p → p.rank = false := fun p hp1 => by
        cases hr : p.rank with
        | false => rfl
        | true => exact absurd ⟨p, hp1, hr⟩ hh
      rw [h.free (fun j p hj hp1 => by obtain rfl : j = i := by omega
                                       exact hno p hp1), if_pos (by omega)]
      have hf : freeOf Ps m = i + 1 := by
        rcases free_cases Ps hm with ⟨j, h1, h2, h3, h4⟩ | ⟨h1, h4⟩
        · rcases Nat.lt_trichotomy i j with hlt | rfl | hlt
          · exact absurd (h4 i hlt) hh
          · exact h1
          · obtain ⟨p, hp1, hp2⟩ := hp j hlt
            rw [h3 p hp1] at hp2
            cases hp2
        · exact absurd (h4 i (by omega)) hh
      rw [hf]
      rfl
theorem free_f (h : RM Ps M) (hn : M.length < 1048576) {m : Nat} (hm : Ps.length ≤ m) (hm2 : m ≤ 65536) : ∃ k, brambleref04_Free.f k m M = some (freeOf Ps m : Int) :=
  ⟨_, free_l0 h hn hm hm2 (M.length + 1) (Nat.le_refl _) m 0 (by omega) (fun q hq => by omega)⟩
theorem putAt_no (hn : M.length < 1048576) (m i x : Int) (h : i < 1 ∨ m < i ∨ 0 ≤ fi M i) : ∃ k, brambleref04_PutAt.f k m M i x = some (m, M, false) := by
  refine ⟨M.length + 1, ?_⟩
  unfold brambleref04_PutAt.f
  by_cases h1 : i < 1
  · rw [if_pos h1]
  · rw [if_neg h1]
    by_cases h2 : i > m
    · rw [if_pos h2]
    · rw [if_neg h2, find_f hn (Nat.le_refl _)]
      simp only [Option.bind_some]
      rw [if_pos (by omega)]
theorem lt_big {a : Nat} (h : a < 2097152) : a < 8796093022208 := Nat.lt_trans h (by decide)
theorem putAt_yes (hn : M.length < 1048576) (m i x : Int) (h1 : 1 ≤ i) (h2 : i ≤ m) (h3 : fi M i = -1) : ∃ k, brambleref04_PutAt.f k m M i x = some (m, M ++ [⟨i, x⟩], true) := by
  refine ⟨M.length + 1, ?_⟩
  unfold brambleref04_PutAt.f
  rw [if_neg (by omega), if_neg (by omega), find_f hn (Nat.le_refl _)]
  simp only [Option.bind_some]
  rw [h3, if_neg (by omega), List.nil_append, if_pos (lt_big (by simp; omega)), if_pos (lt_big (by omega))]
theorem set_no (hn : M.length < 1048576) (m i x : Int) (h : fi M i = -1) : ∃ k, brambleref04_Set.f k m M i x = some (m, M, false) := by
  refine ⟨M.length + 1, ?_⟩
  unfold brambleref04_Set.f
  rw [find_f hn (Nat.le_refl _)]
  simp only [Option.bind_some]
  rw [h, if_pos (by omega)]
theorem set_yes (hn : M.length < 1048576) (m i x : Int) {q : Nat} {y : S47} (h : fi M i = q) (hq : M[q]? = some y) : ∃ k, brambleref04_Set.f k m M i x = some (m, M.set q ⟨y.f0, x⟩, true) := by
  have hlt := (List.getElem?_eq_some_iff.1 hq).1
  refine ⟨M.length + 1, ?_⟩
  unfold brambleref04_Set.f
  rw [find_f hn (Nat.le_refl _)]
  simp only [Option.bind_some]
  rw [h, if_neg (by omega), List.nil_append, if_pos (lt_big (by simp; omega)), if_pos (by omega), if_pos (by omega), rd_get hq, Int.toNat_natCast]
theorem drop_no (hn : M.length < 1048576) (m i : Int) (h : fi M i = -1) : ∃ k, brambleref04_Drop.f k m M i = some (m, M, 0, false) := by
  refine ⟨M.length + 1, ?_⟩
  unfold brambleref04_Drop.f
  rw [find_f hn (Nat.le_refl _)]
  simp only [Option.bind_some]
  rw [h, if_pos (by omega)]
theorem drop_yes (hn : M.length < 1048576) (m i : Int) {q : Nat} {y : S47} (h : fi M i = q) (hq : M[q]? = some y) : ∃ k, brambleref04_Drop.f k m M i = some (m, M.take q ++ M.drop (q + 1), y.f1, true) := by
  have hlt := (List.getElem?_eq_some_iff.1 hq).1
  refine ⟨M.length + 1, ?_⟩
  unfold brambleref04_Drop.f
  rw [find_f hn (Nat.le_refl _)]
  simp only [Option.bind_some]
  rw [h, if_neg (by omega), if_pos (by omega), if_pos (by omega), if_pos (by omega), List.nil_append, if_pos (lt_big (by simp; omega)), w64 (by omega) (by omega), if_pos (by omega), if_pos (by omega), rd_get hq, Int.toNat_natCast, show ((q : Int) + 1).toNat = q + 1 by omega, if_pos (lt_big (by simp; omega))]
/-- The least number of a list, from i on, as the reference tells it. -/
def NextM (M : List S47) (i b : Int) : Prop := (b = 0 ∧ ∀ y, y ∈ M → y.f0 < i) ∨ (∃ y, y ∈ M ∧ y.f0 = b ∧ i ≤ b ∧ ∀ z, z ∈ M → i ≤ z.f0 → b ≤ z.f0)
theorem next_l0 (hpos : ∀ y, y ∈ M → 1 ≤ y.f0) (hn : M.length < 1048576) (a0 i : Int) (d : Nat) : ∀ (n q : Nat) (b : Int), q + n = M.length → NextM (M.take q) i b → ∃ r, brambleref04_Next.l0 (n + d + 1) i b q a0 M = some r ∧ NextM M i r
  | 0, q, b, hq, hb => by
    rw [brambleref04_Next.l0, if_neg (by omega)]
    rw [List.take_of_length_le (by omega)] at hb
    exact ⟨b, rfl, hb⟩
  | n + 1, q, b, hq, hb => by
    obtain ⟨x, hx⟩ : ∃ x, M[q]? = some x := ⟨_, List.getElem?_eq_getElem (by omega)⟩
    have hx1 := hpos x (List.mem_of_getElem? hx)
    have ht : M.take (q + 1) = M.take q ++ [x] := by rw [List.take_add_one, hx]; rfl
    have go : ∀ b', NextM (M.take (q + 1)) i b' → ∃ r, brambleref04_Next.l0 (n + 1 + d) i b' (wrap64 ((q : Int) + 1)) a0 M = some r ∧ NextM M i r := fun b' hb' => by
      rw [w64 (by omega) (by omega), show n + 1 + d = n + d + 1 by omega]
      exact next_l0 hpos hn a0 i d n (q + 1) b' (by omega) hb'
    rw [brambleref04_Next.l0, if_pos (by omega), if_pos (by omega), rd_get hx]
    by_cases h1 : x.f0 ≥ i
    · rw [if_pos h1]
      by_cases h2 : b = 0
      · rw [if_pos h2]
        refine go _ (.inr ⟨x, by rw [ht]; simp, rfl, h1, fun z hz hz2 => ?_⟩)
        rcases hb with ⟨_, h3⟩ | ⟨y, hy, h3, _⟩
        · rw [ht, List.mem_append, List.mem_singleton] at hz
          rcases hz with hz | rfl
          · have := h3 z hz; omega
          · omega
        · have := hpos y (List.mem_of_mem_take hy)
          omega
      · rw [if_neg h2]
        obtain ⟨y, hy, h3, h4, h5⟩ := hb.resolve_left (fun h => h2 h.1)
        by_cases h6 : x.f0 < b
        · rw [if_pos h6]
          refine go _ (.inr ⟨x, by rw [ht]; simp, rfl, h1, fun z hz hz2 => ?_⟩)
          rw [ht, List.mem_append, List.mem_singleton] at hz
          rcases hz with hz | rfl
          · have := h5 z hz hz2; omega
          · omega
        · rw [if_neg h6]
          refine go _ (.inr ⟨y, by rw [ht]; simp [hy], h3, h4, fun z hz hz2 => ?_⟩)
          rw [ht, List.mem_append, List.mem_singleton] at hz
          rcases hz with hz | rfl
          · exact h5 z hz hz2
          · omega
    · rw [if_neg h1]
      refine go _ ?_
      rcases hb with ⟨h2, h3⟩ | ⟨y, hy, h3, h4, h5⟩
      · refine .inl ⟨h2, fun z hz => ?_⟩
        rw [ht, List.mem_append, List.mem_singleton] at hz
        rcases hz with hz | rfl
        · exact h3 z hz
        · omega
      · refine .inr ⟨y, by rw [ht]; simp [hy], h3, h4, fun z hz hz2 => ?_⟩
        rw [ht, List.mem_append, List.mem_singleton] at hz
        rcases hz with hz | rfl
        · exact h5 z hz hz2
        · omega
theorem next_same (h : RM Ps M) {i r r2 : Int} (h1 : NextM M i r) (h2 : IsNext Ps i r2) : r = r2 := by
  have hheld : ∀ (q : Nat) (p : It Int Bool), Ps[q]? = some p → p.rank = true → (⟨(q : Int) + 1, p.key⟩ : S47) ∈ M := fun q p hp hr => (h.iff _ _).2 ⟨q, p, rfl, hp, hr, rfl⟩
  rcases h1 with ⟨rfl, h3⟩ | ⟨y, hy, h3, h4, h5⟩
  · rcases h2 with ⟨q, p, rfl, h6, h7, h8, _⟩ | ⟨rfl, _⟩
    · have := h3 _ (hheld q p h7 h8)
      simp only at this
      omega
    · rfl
  · obtain ⟨j, p, e1, e2, e3, _⟩ := (h.iff y.f0 y.f1).1 hy
    rcases h2 with ⟨q, p2, rfl, h6, h7, h8, h9⟩ | ⟨rfl, h6⟩
    · have hle := h5 _ (hheld q p2 h7 h8) (by simp only; omega)
      simp only at hle
      rcases Nat.lt_trichotomy j q with hlt | rfl | hlt
      · rw [h9 j p (by omega) hlt e2] at e3
        cases e3
      · omega
      · omega
    · rw [h6 j p (by omega) e2] at e3
      cases e3
theorem next_f (h : RM Ps M) (hn : M.length < 1048576) (a0 i : Int) {r : Int} (hr : IsNext Ps i r) {k : Nat} (hk : M.length + 1 ≤ k) : brambleref04_Next.f k a0 M i = some r := by
  obtain ⟨d, rfl⟩ : ∃ d, k = M.length + d + 1 := ⟨k - M.length - 1, by omega⟩
  obtain ⟨r2, h1, h2⟩ := next_l0 (fun y hy => h.pos hy) hn a0 i d M.length 0 0 (by omega) (.inl ⟨rfl, fun y hy => by simp at hy⟩)
  rw [next_same h h2 hr] at h1
  exact h1
end
/-- The things by their numbers. -/
def rl : Nat → List (It Int Bool) → List S47
  | _, [] => []
  | n, p :: t => if p.rank then ⟨(n : Int) + 1, p.key⟩ :: rl (n + 1) t else rl (n + 1) t
theorem rl_len : ∀ (n : Nat) (t : List (It Int Bool)), (rl n t).length = t.countP (fun x => x.rank)
  | _, [] => rfl
  | n, p :: t => by
    rw [rl, List.countP_cons]
    split
    · rename_i h
      rw [List.length_cons, rl_len]
    · rename_i h
      rw [rl_len]
      rfl
section
variable {Ps : List (It Int Bool)} {M : List S47}
theorem rl_next (Ps : List (It Int Bool)) : ∀ n j : Nat, j + n = Ps.length →
    (∃ (q : Nat) (p : It Int Bool), j ≤ q ∧ q < Ps.length ∧ Ps[q]? = some p ∧ p.rank = true ∧ rl j (Ps.drop j) = ⟨(q : Int) + 1, p.key⟩ :: rl (q + 1) (Ps.drop (q + 1)) ∧ IsNext Ps ((j : Int) + 1) ((q : Int) + 1)) ∨ (rl j (Ps.drop j) = [] ∧ IsNext Ps ((j : Int) + 1) 0)
  | 0, j, hj => by
    right
    rw [List.drop_of_length_le (by omega)]
    exact ⟨rfl, .inr ⟨rfl, fun k p h1 h2 => by have := (List.getElem?_eq_some_iff.1 h2).1; omega⟩⟩
  | n + 1, j, hj => by
    have hlt : j < Ps.length := by omega
    have hd : Ps.drop j = Ps[j] :: Ps.drop (j + 1) := List.drop_eq_getElem_cons hlt
    have hg : Ps[j]? = some Ps[j] := List.getElem?_eq_getElem hlt
    rw [hd, rl]
    cases hr : Ps[j].rank with
    | true =>
      left
      refine ⟨j, Ps[j], Nat.le_refl _, hlt, hg, hr, by simp, .inl ⟨j, Ps[j], rfl, by omega, hg, hr, fun k p h1 h2 => by omega⟩⟩
    | false =>
      have ih := rl_next Ps n (j + 1) (by omega)
      have hstep : ∀ r, IsNext Ps (((j + 1 : Nat) : Int) + 1) r → IsNext Ps ((j : Int) + 1) r := fun r h => by
        rcases h with ⟨q, p, h1, h2, h3, h4, h5⟩ | ⟨h1, h2⟩
        · refine .inl ⟨q, p, h1, by omega, h3, h4, fun k p2 h6 h7 h8 => ?_⟩
          by_cases e : k = j
          · subst e
            rw [hg] at h8
            cases h8
            exact hr
          · exact h5 k p2 (by omega) h7 h8
        · refine .inr ⟨h1, fun k p2 h6 h8 => ?_⟩
          by_cases e : k = j
          · subst e
            rw [hg] at h8
            cases h8
            exact hr
          · exact h2 k p2 (by omega) h8
      rcases ih with ⟨q, p, h1, h2, h3, h4, h5, h6⟩ | ⟨h1, h2⟩
      · exact .inl ⟨q, p, by omega, h2, h3, h4, by simpa using h5, hstep _ h6⟩
      · exact .inr ⟨by simpa using h1, hstep _ h2⟩
theorem rising_l0 (h : RM Ps M) (hn : M.length < 1048576) (hm : Ps.length ≤ 65536) (a0 : Int) (d : Nat) (hd : M.length + 1 ≤ d) : ∀ (n j : Nat) (acc : List S47) (r : Int), Ps.length - j ≤ n → j ≤ Ps.length → acc.length + n ≤ 65536 → IsNext Ps ((j : Int) + 1) r → brambleref04_Rising.l0 (n + d + 1) acc r a0 M = some (acc ++ rl j (Ps.drop j))
  | n, j, acc, r, hj, hj2, hacc, hr => by
    rcases rl_next Ps (Ps.length - j) j (by omega) with ⟨q, p, h1, h2, h3, h4, h5, h6⟩ | ⟨h1, h2⟩
    · have e : r = (q : Int) + 1 := by
        obtain ⟨r2, h7, h8⟩ := next_l0 (fun y hy => h.pos hy) hn a0 ((j : Int) + 1) 0 M.length 0 0 (by omega) (.inl ⟨rfl, fun y hy => by simp at hy⟩)
        rw [← next_same h h8 hr, next_same h h8 h6]
      subst e
      obtain ⟨k, hk, hk2⟩ := h.held h3 h4
      have hkl := (List.getElem?_eq_some_iff.1 hk2).1
      obtain ⟨n, rfl⟩ : ∃ n', n = n' + 1 := ⟨n - 1, by omega⟩
      obtain ⟨r2, hr2⟩ : ∃ r2, IsNext Ps (((q + 1 : Nat) : Int) + 1) r2 := by
        rcases rl_next Ps (Ps.length - (q + 1)) (q + 1) (by omega) with ⟨q2, _, _, _, _, _, _, h9⟩ | ⟨_, h9⟩
        · exact ⟨_, h9⟩
        · exact ⟨_, h9⟩
      rw [brambleref04_Rising.l0, if_pos (by omega), find_f hn (by omega)]
      simp only [Option.bind_some]
      rw [hk, if_pos (by omega), if_pos (by omega), if_pos (lt_big (by omega)), w64 (by omega) (by omega), show ((q : Int) + 1 + 1) = ((q + 1 : Nat) : Int) + 1 by omega, next_f h hn a0 _ hr2 (by omega)]
      simp only [Option.bind_some]
      rw [rd_get hk2, show n + 1 + d = n + d + 1 by omega, rising_l0 h hn hm a0 d hd n (q + 1) _ r2 (by omega) (by omega) (by simp; omega) hr2, h5, List.append_assoc]
      rfl
    · have e : r = 0 := by
        obtain ⟨r2, h7, h8⟩ := next_l0 (fun y hy => h.pos hy) hn a0 ((j : Int) + 1) 0 M.length 0 0 (by omega) (.inl ⟨rfl, fun y hy => by simp at hy⟩)
        rw [← next_same h h8 hr, next_same h h8 h2]
      rw [e, brambleref04_Rising.l0, if_neg (by omega), h1, List.append_nil]
theorem rising_f (h : RM Ps M) (hn : M.length < 1048576) (hm : Ps.length ≤ 65536) (a0 : Int) : ∃ k, brambleref04_Rising.f k a0 M = some (rl 0 Ps) := by
  obtain ⟨r, hr⟩ : ∃ r, IsNext Ps (((0 : Nat) : Int) + 1) r := by
    rcases rl_next Ps Ps.length 0 (by omega) with ⟨q2, _, _, _, _, _, _, h9⟩ | ⟨_, h9⟩
    · exact ⟨_, h9⟩
    · exact ⟨_, h9⟩
  refine ⟨Ps.length + (M.length + 1) + 1, ?_⟩
  unfold brambleref04_Rising.f
  rw [next_f h hn a0 1 hr (by omega)]
  simp only [Option.bind_some]
  rw [rising_l0 h hn hm a0 (M.length + 1) (Nat.le_refl _) Ps.length 0 [] r (by omega) (by omega) (by simpa using hm) hr]
  rfl
end
end Go.Proofs.Ytiocnkoogachkaa.Rs
