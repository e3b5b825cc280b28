/- This text proves what the reference's functions answer of a list of keys and ranks, in plain Lean. -/
import Derived.Test.YtiblnccbeefdkaaHz
import Derived.Test.YtiblnccbeefdkaaRf
namespace Go.Proofs.Ytiblnccbeefdkaa.Hy
open Go.RowKit Go.Proofs.YtiblnccbeefdkaaW.PrintWords Go.Proofs.Ytiblnccbeefdkaa.Hp Go.Proofs.Ytiblnccbeefdkaa.PHeapPlays
set_option linter.unusedVariables false

theorem w64 {n : Int} (h0 : -9223372036854775808 ≤ n) (h1 : n < 9223372036854775808) : wrap64 n = n := by unfold wrap64; omega
/-- the list that the reference keeps -/
def ref (M : List (It Int Int)) : List S73 := M.map (fun x => ⟨x.key, x.rank⟩)
theorem ref_len (M : List (It Int Int)) : (ref M).length = M.length := by simp [ref]
theorem ref_get {M : List (It Int Int)} {i : Nat} {x : It Int Int} (h : M[i]? = some x) : (ref M)[i]? = some ⟨x.key, x.rank⟩ := by simp [ref, h]
theorem rd_get {M : List (It Int Int)} {i : Nat} {x : It Int Int} (h : M[i]? = some x) : rd_T73 (ref M) (i : Int) = ⟨x.key, x.rank⟩ := by
  unfold rd_T73
  rw [Int.toNat_natCast, List.getD_eq_getElem?_getD, ref_get h]
  rfl
/-- where a key stands, as the reference tells it -/
def atI (M : List (It Int Int)) (k : Int) : Int := match place M k with | some i => i | none => -1
theorem at_l0 (M : List (It Int Int)) (k : Int) (hn : M.length < 1048576) : ∀ n i : Nat, i + n = M.length → (∀ j x, j < i → M[j]? = some x → x.key ≠ k) → brambleref03_At.l0 (n + 1) (ref M) k i = some (atI M k)
  | 0, i, hi, hp => by
    have hpl : place M k = none := by
      rw [place_none]
      intro h
      obtain ⟨x, hx, hxk⟩ := List.mem_map.1 h
      obtain ⟨j, hj⟩ := List.getElem?_of_mem hx
      exact hp j x (by have := (List.getElem?_eq_some_iff.1 hj).1; omega) hj hxk
    simp only [brambleref03_At.l0]
    rw [if_neg (by rw [ref_len]; omega)]
    unfold atI; rw [hpl]
  | n + 1, i, hi, hp => by
    obtain ⟨x, hx⟩ : ∃ x, M[i]? = some x := ⟨_, List.getElem?_eq_getElem (by omega)⟩
    rw [brambleref03_At.l0]
    rw [if_pos (by rw [ref_len]; omega), if_pos (by omega), rd_get hx]
    by_cases h : x.key = k
    · rw [if_pos h]
      have hpl : place M k = some i := by
        unfold place
        rw [List.findIdx?_eq_some_iff_getElem]
        have hlt := (List.getElem?_eq_some_iff.1 hx).1
        refine ⟨hlt, ?_, fun j hj => ?_⟩
        · rw [List.getElem?_eq_getElem hlt] at hx
          cases hx
          simpa using h
        · have := hp j M[j] hj (List.getElem?_eq_getElem (by omega))
          simpa using this
      unfold atI; rw [hpl]
    · rw [if_neg h, w64 (by omega) (by omega)]
      exact at_l0 M k hn n (i + 1) (by omega) (fun j y hj hy => by
        rcases Nat.lt_or_ge j i with h1 | h1
        · exact hp j y h1 hy
        · obtain rfl : j = i := by omega
          rw [hx] at hy; cases hy; exact h)
theorem at_f (M : List (It Int Int)) (k : Int) (hn : M.length < 1048576) : brambleref03_At.f (M.length + 1) (ref M) k = some (atI M k) := at_l0 M k hn M.length 0 (by omega) (fun j x hj => by omega)

theorem push_f (M : List (It Int Int)) (k p c : Int) (hn : M.length < 1048576) :
    brambleref03_Push.f (M.length + 1) (ref M) k p = some (if k ∈ keys M then (ref M, false) else (ref (M ++ [⟨k, p, c⟩]), true)) := by
  unfold brambleref03_Push.f
  rw [at_f M k hn]
  simp only [Option.bind_some]
  by_cases h : k ∈ keys M
  · have hp : ∃ i, place M k = some i := by
      cases hq : place M k with
      | none => exact absurd h ((place_none k).1 hq)
      | some i => exact ⟨i, rfl⟩
    obtain ⟨i, hi⟩ := hp
    rw [if_pos h]
    unfold atI
    rw [hi]
    rw [if_pos (by simp)]
  · have hp := (place_none (L := M) k).2 h
    rw [if_neg h]
    unfold atI
    rw [hp]
    simp only
    rw [if_neg (by omega), if_pos (by rw [ref_len]; simp; omega), if_pos (by simp [ref_len]; omega)]
    simp [ref]

theorem lower_f (M : List (It Int Int)) (k p : Int) (hn : M.length < 1048576) (hd : (keys M).Nodup) :
    (k ∉ keys M → brambleref03_Lower.f (M.length + 1) (ref M) k p = some (ref M, false)) ∧
    (∀ i x, M[i]? = some x → x.key = k → brambleref03_Lower.f (M.length + 1) (ref M) k p = some (if p < x.rank then (ref (M.set i ⟨x.key, p, x.came⟩), true) else (ref M, false))) := by
  constructor
  · intro h
    unfold brambleref03_Lower.f
    rw [at_f M k hn]
    unfold atI
    rw [(place_none (L := M) k).2 h]
    rfl
  · intro i x hx hk
    have hlt := (List.getElem?_eq_some_iff.1 hx).1
    unfold brambleref03_Lower.f
    rw [at_f M k hn]
    unfold atI
    rw [(place_iff hd k i).2 ⟨x, hx, hk⟩]
    simp only [Option.bind_some]
    rw [if_neg (by omega), if_pos (by omega), if_pos (by rw [ref_len]; omega), rd_get hx]
    by_cases h : p < x.rank
    · rw [if_neg (by simp only; omega), if_pos h, if_pos (by rw [ref_len]; simp; omega)]
      rw [List.nil_append]
      rw [if_pos (by rw [ref_len]; omega), rd_get hx, Int.toNat_natCast]
      simp [ref, List.map_set]
    · rw [if_pos (by simp only; omega), if_neg h]

theorem lt_big {a : Nat} (h : a < 2097152) : a < 8796093022208 := Nat.lt_trans h (by decide)
theorem without_f (M : List (It Int Int)) (i : Nat) (hi : i < M.length) (hn : M.length < 1048576) : brambleref03_Without.f (ref M) (i : Int) = some (ref (M.eraseIdx i)) := by
  have hl := ref_len M
  have e : ref (M.eraseIdx i) = (ref M).take i ++ (ref M).drop (i + 1) := by
    unfold ref
    rw [List.eraseIdx_eq_take_drop_succ, List.map_append, List.map_take, List.map_drop]
  rw [e]
  generalize ref M = m at *
  have h1 : ([] : List S73).length + (m.take i).length < 8796093022208 := lt_big (by rw [List.length_nil, List.length_take]; omega)
  have h2 : (m.take i).length + (m.drop (i + 1)).length < 8796093022208 := lt_big (by rw [List.length_take, List.length_drop]; omega)
  have e1 : (i : Int).toNat = i := Int.toNat_natCast i
  have e2 : ((i : Int) + 1).toNat = i + 1 := by omega
  have e3 : wrap64 ((i : Int) + 1) = (i : Int) + 1 := w64 (by omega) (by omega)
  unfold brambleref03_Without.f
  rw [e3, e2, e1]
  simp only [Option.bind_some, List.nil_append]
  rw [if_pos (by omega), if_pos (by omega), if_pos h1, if_pos (by omega), if_pos (by omega), if_pos h2]

/-- the first of the least -/
def Best (M : List (It Int Int)) (i : Nat) (b : Int) : Prop := (i = 0 ∧ b = -1) ∨ ∃ (j : Nat) (x : It Int Int), j < i ∧ b = j ∧ M[j]? = some x ∧ ∀ q y, q < i → M[q]? = some y → x.rank ≤ y.rank ∧ (q < j → x.rank < y.rank)
theorem first_l0 (M : List (It Int Int)) (hn : M.length < 1048576) : ∀ (n i : Nat) (b : Int), i + n = M.length → Best M i b → ∃ r, brambleref03_First.l0 (n + 1) (ref M) b i = some r ∧ Best M M.length r
  | 0, i, b, hi, hb => by
    refine ⟨b, ?_, by rw [show M.length = i by omega]; exact hb⟩
    simp only [brambleref03_First.l0]
    rw [if_neg (by rw [ref_len]; omega)]
  | n + 1, i, b, hi, hb => by
    obtain ⟨x, hx⟩ : ∃ x, M[i]? = some x := ⟨_, List.getElem?_eq_getElem (by omega)⟩
    rw [brambleref03_First.l0]
    rw [if_pos (by rw [ref_len]; omega)]
    rcases hb with ⟨rfl, rfl⟩ | ⟨j, z, hj, rfl, hz, hle⟩
    · rw [if_pos (by omega), w64 (by omega) (by omega)]
      exact first_l0 M hn n 1 0 (by omega) (.inr ⟨0, x, by omega, rfl, hx, fun q y hq hy => by
        obtain rfl : q = 0 := by omega
        rw [hx] at hy; cases hy
        exact ⟨by omega, fun h => by omega⟩⟩)
    · rw [if_neg (by omega), if_pos (by omega), if_pos (by omega), if_pos (by rw [ref_len]; omega), rd_get hx, rd_get hz, w64 (by omega) (by omega)]
      by_cases h : x.rank < z.rank
      · rw [if_pos h]
        exact first_l0 M hn n (i + 1) i (by omega) (.inr ⟨i, x, by omega, rfl, hx, fun q y hq hy => by
          rcases Nat.lt_or_ge q i with h1 | h1
          · have := (hle q y h1 hy).1
            exact ⟨by omega, fun _ => by omega⟩
          · obtain rfl : q = i := by omega
            rw [hx] at hy; cases hy
            exact ⟨by omega, fun h => by omega⟩⟩)
      · rw [if_neg h]
        exact first_l0 M hn n (i + 1) j (by omega) (.inr ⟨j, z, by omega, rfl, hz, fun q y hq hy => by
          rcases Nat.lt_or_ge q i with h1 | h1
          · exact hle q y h1 hy
          · obtain rfl : q = i := by omega
            rw [hx] at hy; cases hy
            exact ⟨by omega, fun h => by omega⟩⟩)
theorem first_f (M : List (It Int Int)) (hn : M.length < 1048576) : ∃ r, brambleref03_First.f (M.length + 1) (ref M) = some r ∧ Best M M.length r := first_l0 M hn M.length 0 (-1) (by omega) (.inl ⟨rfl, rfl⟩)

/-- where the list is in the order of coming, the reference's first is the heap's -/
theorem best_heap {L M : List (It Int Int)} (hH : Heap L) (hp : L.Perm M) (hs : M.Pairwise (fun a b => a.came < b.came)) {b : Int} (hb : Best M M.length b) {x : It Int Int} (hx : L[0]? = some x) : ∃ j : Nat, b = j ∧ M[j]? = some x := by
  have hlen := (List.getElem?_eq_some_iff.1 hx).1
  have hl := hp.length_eq
  rcases hb with ⟨h0, _⟩ | ⟨j, z, hj, rfl, hz, hle⟩
  · omega
  · refine ⟨j, rfl, ?_⟩
    obtain ⟨q, hq⟩ := List.getElem?_of_mem (hp.mem_iff.1 (List.mem_of_getElem? hx))
    have hqlt := (List.getElem?_eq_some_iff.1 hq).1
    have h1 := hle q x hqlt hq
    have h2 := hH.least_mem hx (hp.mem_iff.2 (List.mem_of_getElem? hz))
    unfold Lt at h2
    rcases Nat.lt_trichotomy q j with h3 | h3 | h3
    · have := h1.2 h3; omega
    · subst h3; exact hq
    · have hc : z.came < x.came := by
        rw [List.pairwise_iff_getElem] at hs
        have := hs j q (by omega) hqlt h3
        rw [List.getElem?_eq_getElem (by omega)] at hz
        rw [List.getElem?_eq_getElem hqlt] at hq
        cases hz; cases hq
        exact this
      omega
end Go.Proofs.Ytiblnccbeefdkaa.Hy
