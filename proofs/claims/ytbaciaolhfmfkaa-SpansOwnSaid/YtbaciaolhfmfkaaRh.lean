/- This text is the plain law of the reference's questions, and its functions' contracts over a set that is told as runs. -/
import Derived.Test.YtbaciaolhfmfkaaRg
import Derived.Test.YtbaciaolhfmfkaaOw
namespace Go.Proofs.Ytbaciaolhfmfkaa.Rf
open Go.RowKit Go.Proofs.YtbaciaolhfmfkaaW.PrintWords Go.Proofs.Ytbaciaolhfmfkaa.Sp Go.Proofs.Ytbaciaolhfmfkaa.PSpansBytes Go.Proofs.Ytbaciaolhfmfkaa.Mp Go.Proofs.Ytbaciaolhfmfkaa.Ow
set_option linter.unusedVariables false
def ofR (R : List Run) : List S42 := R.map (fun r => ⟨r.1, r.2⟩)
theorem toR_ofR (R : List Run) : toR (ofR R) = R := by unfold toR ofR; rw [List.map_map]; exact (List.map_congr_left (g := id) (fun _ _ => rfl)).trans (List.map_id R)
theorem ofR_toR (l : List S42) : ofR (toR l) = l := by unfold toR ofR; rw [List.map_map]; exact (List.map_congr_left (g := id) (fun _ _ => rfl)).trans (List.map_id l)
theorem ofR_len (R : List Run) : (ofR R).length = R.length := by simp [ofR]
theorem ofR_get {R : List Run} {i : Nat} (h : i < R.length) : rd_T42 (ofR R) (i : Int) = ⟨R[i].1, R[i].2⟩ := by rw [rd_T42_get (by rw [ofR_len]; exact h)]; simp [ofR]
theorem same_l0 (R S : List Run) (hl : R.length = S.length) (hb : R.length ≤ 4398046511104) : ∀ d i, R.length - i = d → i ≤ R.length → R.take i = S.take i → ∀ k, d < k → brambleref02_Same.l0 k (ofR R) (ofR S) ((ofR R).length : Int) (i : Int) = some (decide (R = S))
  | d, i, hd, hi, ht, k, hk => by
    obtain ⟨k, rfl⟩ : ∃ m, k = m + 1 := ⟨k - 1, by omega⟩
    simp only [brambleref02_Same.l0]
    by_cases hil : i < R.length
    · cases d with
      | zero => omega
      | succ d =>
        have hsl : i < S.length := by omega
        rw [if_pos (by rw [ofR_len]; omega), if_pos (by omega), if_pos (by rw [ofR_len]; omega), if_pos (by rw [ofR_len]; omega), ofR_get hil, ofR_get hsl]
        simp only
        by_cases he : R[i] = S[i]
        · rw [he, if_neg (by simp), wrap_in (by omega)]
          exact same_l0 R S hl hb d (i + 1) (by omega) (by omega) (by rw [List.take_succ_eq_append_getElem hil, List.take_succ_eq_append_getElem hsl, ht, he]) k (by omega)
        · have h1 : ¬ (R[i].1 = S[i].1 ∧ R[i].2 = S[i].2) := fun h => he (Prod.ext h.1 h.2)
          rw [if_pos (by
            by_cases h2 : R[i].1 = S[i].1
            · have h3 : ¬ R[i].2 = S[i].2 := fun h => h1 ⟨h2, h⟩
              simp [h2, h3]
            · simp [h2]), decide_eq_false (fun e => he (by subst e; rfl))]
    · rw [if_neg (by rw [ofR_len]; omega), decide_eq_true (by
        rw [List.take_of_length_le (by omega), List.take_of_length_le (by omega)] at ht
        exact ht)]
theorem same_f (R S : List Run) (hb : R.length ≤ 4398046511104) (k : Nat) (hk : R.length < k) : brambleref02_Same.f k (ofR R) (ofR S) = some (decide (R = S)) := by
  unfold brambleref02_Same.f
  by_cases hl : R.length = S.length
  · rw [if_pos (by rw [ofR_len, ofR_len, hl])]
    exact same_l0 R S hl hb R.length 0 (by omega) (Nat.zero_le _) rfl k hk
  · rw [if_neg (by rw [ofR_len, ofR_len]; omega), decide_eq_false (fun e => hl (by rw [e]))]
theorem holds_ex {mn mx : Int} {R : List Run} (h : Sp.Good mn mx R) (lo hi : Int) : holdsB R lo hi = true ↔ hi < lo ∨ ∃ q ∈ R, q.1 ≤ lo ∧ hi ≤ q.2 := by
  constructor
  · intro hb
    unfold holdsB at hb
    by_cases hlt : hi < lo
    · exact .inl hlt
    · right
      cases hr : R[fromI R lo]? with
      | none => rw [hr] at hb; simp at hb; omega
      | some r =>
        rw [hr] at hb
        simp at hb
        exact ⟨r, List.mem_of_getElem? hr, by omega⟩
  · intro hx
    refine (holdsB_iff h lo hi).2 (fun y h1 h2 => ?_)
    rcases hx with hx | ⟨q, hq, a, b⟩
    · omega
    · exact ⟨q, hq, by omega, by omega⟩
theorem holds_l0 {mn mx : Int} {R : List Run} (h : Sp.Good mn mx R) (lo hi : Int) (hb : R.length ≤ 4398046511104) : ∀ d i, R.length - i = d → i ≤ R.length → (∀ j (hj : j < R.length), j < i → ¬ (R[j].1 ≤ lo ∧ hi ≤ R[j].2)) → ∀ k, d < k → brambleref02_Holds.l0 k lo hi (ofR R) (i : Int) = some (holdsB R lo hi)
  | d, i, hd, hi', hno, k, hk => by
    obtain ⟨k, rfl⟩ : ∃ m, k = m + 1 := ⟨k - 1, by omega⟩
    simp only [brambleref02_Holds.l0]
    by_cases hil : i < R.length
    · cases d with
      | zero => omega
      | succ d =>
        rw [if_pos (by rw [ofR_len]; omega), if_pos (by omega), ofR_get hil, wrap_in (by omega)]
        simp only
        by_cases hq : R[i].1 ≤ lo ∧ hi ≤ R[i].2
        · rw [if_pos hq.1, if_pos hq.2, (holds_ex h lo hi).2 (.inr ⟨R[i], List.getElem_mem hil, hq⟩)]
        · have ih := holds_l0 h lo hi hb d (i + 1) (by omega) (by omega) (fun j hj hji => by
            rcases Nat.lt_or_eq_of_le (Nat.le_of_lt_succ hji) with h2 | h2
            · exact hno j hj h2
            · subst h2; exact hq) k (by omega)
          rw [show (((i + 1 : Nat) : Int)) = (i : Int) + 1 by omega] at ih
          by_cases h1 : R[i].1 ≤ lo
          · rw [if_pos h1, if_neg (fun h2 => hq ⟨h1, h2⟩)]; exact ih
          · rw [if_neg h1]; exact ih
    · rw [if_neg (by rw [ofR_len]; omega)]
      congr 1
      by_cases hlt : hi < lo
      · rw [(holds_ex h lo hi).2 (.inl hlt)]; simpa using hlt
      · cases hh : holdsB R lo hi with
        | false => simpa using hlt
        | true =>
          rcases (holds_ex h lo hi).1 hh with h1 | ⟨q, hq, h1⟩
          · exact absurd h1 hlt
          · obtain ⟨j, hj, rfl⟩ := List.mem_iff_getElem.1 hq
            exact absurd h1 (hno j hj (by omega))
theorem meets_ex {mn mx : Int} {R : List Run} (h : Sp.Good mn mx R) (lo hi : Int) : meetsB R lo hi = true ↔ ∃ q ∈ R, max q.1 lo ≤ min q.2 hi := by
  rw [meetsB_iff h]
  constructor
  · rintro ⟨y, h1, h2, q, hq, h3, h4⟩
    exact ⟨q, hq, by omega⟩
  · rintro ⟨q, hq, h1⟩
    exact ⟨max q.1 lo, by omega, by omega, q, hq, by omega, by omega⟩
theorem meets_l0 {mn mx : Int} {R : List Run} (h : Sp.Good mn mx R) (lo hi : Int) (hb : R.length ≤ 4398046511104) : ∀ d i, R.length - i = d → i ≤ R.length → (∀ j (hj : j < R.length), j < i → ¬ (max R[j].1 lo ≤ min R[j].2 hi)) → ∀ k, d < k → brambleref02_Meets.l0 k lo hi (ofR R) (i : Int) = some (meetsB R lo hi)
  | d, i, hd, hi', hno, k, hk => by
    obtain ⟨k, rfl⟩ : ∃ m, k = m + 1 := ⟨k - 1, by omega⟩
    simp only [brambleref02_Meets.l0]
    by_cases hil : i < R.length
    · cases d with
      | zero => omega
      | succ d =>
        rw [if_pos (by rw [ofR_len]; omega), if_pos (by omega), ofR_get hil, wrap_in (by omega)]
        simp only
        have hmx : YtbaciaolhfmfkaaW.PrintWords.mx R[i].1 lo = max R[i].1 lo := by unfold YtbaciaolhfmfkaaW.PrintWords.mx; omega
        have hmn : YtbaciaolhfmfkaaW.PrintWords.mn R[i].2 hi = min R[i].2 hi := by unfold YtbaciaolhfmfkaaW.PrintWords.mn; omega
        rw [hmx, hmn]
        by_cases hq : max R[i].1 lo ≤ min R[i].2 hi
        · rw [if_pos hq, (meets_ex h lo hi).2 ⟨R[i], List.getElem_mem hil, hq⟩]
        · rw [if_neg hq]
          have ih := meets_l0 h lo hi hb d (i + 1) (by omega) (by omega) (fun j hj hji => by
            rcases Nat.lt_or_eq_of_le (Nat.le_of_lt_succ hji) with h2 | h2
            · exact hno j hj h2
            · subst h2; exact hq) k (by omega)
          rw [show (((i + 1 : Nat) : Int)) = (i : Int) + 1 by omega] at ih
          exact ih
    · rw [if_neg (by rw [ofR_len]; omega)]
      congr 1
      cases hh : meetsB R lo hi with
      | false => rfl
      | true =>
        obtain ⟨q, hq, h1⟩ := (meets_ex h lo hi).1 hh
        obtain ⟨j, hj, rfl⟩ := List.mem_iff_getElem.1 hq
        exact absurd h1 (hno j hj (by omega))
theorem next_l0 {mn mx : Int} {R : List Run} (h : Sp.Good mn mx R) (x : Int) (hb : R.length ≤ 4398046511104) : ∀ d i, R.length - i = d → i ≤ R.length → i ≤ fromI R x → ∀ k, d < k → brambleref02_Next.l0 k x (ofR R) (i : Int) = some ((nextI R x).getD 0, (nextI R x).isSome)
  | d, i, hd, hi', hno, k, hk => by
    obtain ⟨k, rfl⟩ : ∃ m, k = m + 1 := ⟨k - 1, by omega⟩
    simp only [brambleref02_Next.l0]
    by_cases hil : i < R.length
    · cases d with
      | zero => omega
      | succ d =>
        rw [if_pos (by rw [ofR_len]; omega), if_pos (by omega), ofR_get hil, wrap_in (by omega)]
        simp only
        have hmx : YtbaciaolhfmfkaaW.PrintWords.mx x R[i].1 = max x R[i].1 := by unfold YtbaciaolhfmfkaaW.PrintWords.mx; omega
        rw [hmx]
        have hg := List.getElem?_eq_getElem hil
        have hi2 := from_iff h x hg
        by_cases hq : x ≤ R[i].2
        · have he : fromI R x = i := by have := hi2.1 hq; omega
          have e1 : nextI R x = some (max x R[i].1) := by unfold nextI; rw [he, hg]; rfl
          rw [if_pos hq, e1]
          rfl
        · rw [if_neg (by omega)]
          have ih := next_l0 h x hb d (i + 1) (by omega) (by omega) (by
            rcases Nat.lt_or_ge i (fromI R x) with h1 | h1
            · exact h1
            · exact absurd (hi2.2 h1) hq) k (by omega)
          rw [show (((i + 1 : Nat) : Int)) = (i : Int) + 1 by omega] at ih
          exact ih
    · rw [if_neg (by rw [ofR_len]; omega)]
      have e1 : nextI R x = none := by unfold nextI; rw [List.getElem?_eq_none (by omega)]; rfl
      rw [e1]
      rfl
/-- The reference's set and the program's say one thing. -/
structure Rel (mn most : Int) (R : List Run) (acts : List S98) : Prop where
  good : Sp.Good mn most R
  mem : ∀ x, mem R x ↔ hasL acts x = true ∧ x ≤ most
  fits : Fits mn most acts
section
variable {mn most : Int} {R : List Run} {acts : List S98}
theorem Rel.runs (h : Rel mn most R acts) (hmost : most ≤ 9223372036854775807) (hmn : -9223372036854775808 ≤ mn) (hl : acts.length ≤ 2199023255552) : Ev (fun k => brambleref02_Runs.f k acts most) (ofR R) := by
  obtain ⟨r, h1, h2, h3⟩ := runs_f hmost hmn h.fits hl
  have e : toR r = R := Good.unique h2 h.good (fun x => by rw [h3, h.mem])
  rw [← e, ofR_toR]
  exact h1
theorem Rel.holds (h : Rel mn most R acts) (hmost : most ≤ 9223372036854775807) (hmn : -9223372036854775808 ≤ mn) (hl : acts.length ≤ 2199023255552) (hb : R.length ≤ 4398046511104) (lo hi : Int) : ∃ k, brambleref02_Holds.f k acts most lo hi = some (holdsB R lo hi) := by
  obtain ⟨K, hK⟩ := h.runs hmost hmn hl
  refine ⟨K + R.length + 1, ?_⟩
  unfold brambleref02_Holds.f
  rw [show brambleref02_Runs.f (K + R.length + 1) acts most = some (ofR R) from hK _ (by omega), Option.bind_some]
  exact holds_l0 h.good lo hi hb R.length 0 (by omega) (Nat.zero_le _) (fun j _ h => by omega) _ (by omega)
theorem Rel.meets (h : Rel mn most R acts) (hmost : most ≤ 9223372036854775807) (hmn : -9223372036854775808 ≤ mn) (hl : acts.length ≤ 2199023255552) (hb : R.length ≤ 4398046511104) (lo hi : Int) : ∃ k, brambleref02_Meets.f k acts most lo hi = some (meetsB R lo hi) := by
  obtain ⟨K, hK⟩ := h.runs hmost hmn hl
  refine ⟨K + R.length + 1, ?_⟩
  unfold brambleref02_Meets.f
  rw [show brambleref02_Runs.f (K + R.length + 1) acts most = some (ofR R) from hK _ (by omega), Option.bind_some]
  exact meets_l0 h.good lo hi hb R.length 0 (by omega) (Nat.zero_le _) (fun j _ h => by omega) _ (by omega)
theorem Rel.next (h : Rel mn most R acts) (hmost : most ≤ 9223372036854775807) (hmn : -9223372036854775808 ≤ mn) (hl : acts.length ≤ 2199023255552) (hb : R.length ≤ 4398046511104) (x : Int) : ∃ k, brambleref02_Next.f k acts most x = some ((nextI R x).getD 0, (nextI R x).isSome) := by
  obtain ⟨K, hK⟩ := h.runs hmost hmn hl
  refine ⟨K + R.length + 1, ?_⟩
  unfold brambleref02_Next.f
  rw [show brambleref02_Runs.f (K + R.length + 1) acts most = some (ofR R) from hK _ (by omega), Option.bind_some]
  exact next_l0 h.good x hb R.length 0 (by omega) (Nat.zero_le _) (Nat.zero_le _) _ (by omega)
theorem Rel.has (h : Rel mn most R acts) (hl : acts.length ≤ 4398046511104) (x : Int) (hx : x ≤ most) : ∃ k, brambleref02_Has.f k acts most x = some (holdsB R x x) := by
  refine ⟨acts.length + 1, ?_⟩
  rw [has_f acts most x hl _ (by omega)]
  congr 1
  have h1 := holdsB_iff h.good x x
  have h2 : holdsB R x x = true ↔ hasL acts x = true := by
    rw [h1]
    constructor
    · intro hy; exact ((h.mem x).1 (hy x (Int.le_refl _) (Int.le_refl _))).1
    · intro hy y a b
      rw [show y = x by omega]
      exact (h.mem x).2 ⟨hy, hx⟩
  cases hA : holdsB R x x <;> cases hB : hasL acts x <;> simp_all
theorem done_f (a : Bool) (lo hi : Int) (hl : acts.length ≤ 4398046511104) : brambleref02_Done.f acts most a lo hi = some (acts ++ [⟨a, lo, hi⟩], most) := by
  unfold brambleref02_Done.f
  simp only [Option.bind_some, List.nil_append, List.length_nil]
  rw [if_pos (by omega), if_pos (by omega)]
theorem fits_snoc (h : Fits mn most acts) (a : Bool) {lo hi : Int} (h1 : mn ≤ lo) (h2 : hi ≤ most) : Fits mn most (acts ++ [⟨a, lo, hi⟩]) := fun b hb => by
  rcases List.mem_append.1 hb with hb | hb
  · exact h b hb
  · obtain rfl := List.mem_singleton.1 hb; exact ⟨h1, h2⟩
theorem Rel.add (h : Rel mn most R acts) {lo hi : Int} (h1 : mn ≤ lo) (h2 : hi ≤ most) {R2 : List Run} (hg : Sp.Good mn most R2) (hm : ∀ y, Sp.mem R2 y ↔ Sp.mem R y ∨ (lo ≤ y ∧ y ≤ hi)) : Rel mn most R2 (acts ++ [⟨true, lo, hi⟩]) := by
  refine ⟨hg, fun x => ?_, fits_snoc h.fits true h1 h2⟩
  rw [hm, h.mem, hasL_snoc]
  by_cases hc : covers ⟨true, lo, hi⟩ x
  · rw [if_pos hc]
    have hc' : lo ≤ x ∧ x ≤ hi := hc
    simp only [true_and]
    exact ⟨fun _ => by omega, fun _ => .inr hc'⟩
  · rw [if_neg hc]
    have hc' : ¬ (lo ≤ x ∧ x ≤ hi) := hc
    exact ⟨fun h => h.elim id (fun h => absurd h hc'), .inl⟩
theorem Rel.cut (h : Rel mn most R acts) {lo hi : Int} (h1 : mn ≤ lo) (h2 : hi ≤ most) {R2 : List Run} (hg : Sp.Good mn most R2) (hm : ∀ y, Sp.mem R2 y ↔ Sp.mem R y ∧ ¬ (lo ≤ y ∧ y ≤ hi)) : Rel mn most R2 (acts ++ [⟨false, lo, hi⟩]) := by
  refine ⟨hg, fun x => ?_, fits_snoc h.fits false h1 h2⟩
  rw [hm, h.mem, hasL_snoc]
  by_cases hc : covers ⟨false, lo, hi⟩ x
  · rw [if_pos hc]
    have hc' : lo ≤ x ∧ x ≤ hi := hc
    simp only [Bool.false_eq_true, false_and, iff_false]
    exact fun h => h.2 hc'
  · rw [if_neg hc]
    have hc' : ¬ (lo ≤ x ∧ x ≤ hi) := hc
    exact ⟨fun h => h.1, fun h => ⟨h, hc'⟩⟩
end
theorem row_C {w : World} {base : Nat} {v : Value} {R : List Run} (h : w.ownsRow base 42 2 v R.length (R.flatMap (fun r => [.int .i64 r.1, .int .i64 r.2]))) (hl : R.length ≤ 4398046511104) :
    ∃ A c, v = .slice A (ofR R).length c ∧ (ofR R).length ≤ c ∧ Kd.C k42 w A (ofR R).length (ofR R) := by
  rw [ofR_len]
  rcases h.2 with ⟨hv, hn⟩ | ⟨g, cap, cur, rfl, h1, h2, h3, _⟩
  · refine ⟨none, 0, by rw [hv, hn], by omega, by rw [ofR_len], by omega, fun h => by omega⟩
  · refine ⟨_, cap, rfl, h3, by rw [ofR_len], by omega, fun _ => ⟨_, rfl, fun j p hp => ?_⟩⟩
    have hj : j < R.length := by have := (List.getElem?_eq_some_iff.1 hp).1; rw [ofR_len] at this; exact this
    have hp2 : p = ⟨R[j].1, R[j].2⟩ := by
      have : (ofR R)[j]? = some ⟨R[j].1, R[j].2⟩ := by simp [ofR, hj]
      rw [hp] at this; cases this; rfl
    subst hp2
    refine ⟨[.int .i64 R[j].1, .int .i64 R[j].2], rfl, k42_mk w _, fun i u hu => ?_⟩
    rw [add0]
    refine own_cell h _ u ?_
    have hfl : ∀ (R : List Run) (j : Nat) (hj : j < R.length), (R.flatMap (fun r => [Value.int .i64 r.1, Value.int .i64 r.2]))[j * 2]? = some (.int .i64 R[j].1) ∧ (R.flatMap (fun r => [Value.int .i64 r.1, Value.int .i64 r.2]))[j * 2 + 1]? = some (.int .i64 R[j].2) := by
      intro R
      induction R with
      | nil => intro j hj; cases hj
      | cons r R ih =>
        intro j hj
        cases j with
        | zero => exact ⟨rfl, rfl⟩
        | succ j =>
          have := ih j (by simpa using hj)
          rw [List.flatMap_cons, show (j + 1) * 2 = j * 2 + 1 + 1 by omega]
          exact this
    obtain ⟨e1, e2⟩ := hfl R j hj
    show (R.flatMap (fun r => [Value.int .i64 r.1, Value.int .i64 r.2]))[j * 2 + i]? = some u
    match i, hu with
    | 0, hu => cases hu; exact e1
    | 1, hu => cases hu; exact e2
    | i + 2, hu => cases hu
end Go.Proofs.Ytbaciaolhfmfkaa.Rf
