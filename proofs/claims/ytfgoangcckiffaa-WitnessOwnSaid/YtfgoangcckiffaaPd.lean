/- This text proves that reading a witness's bytes and writing them are each other's inverse: plain lists, no program in sight. -/
import Derived.Test.YtfgoangcckiffaaDc
import Derived.Test.YtfgoangcckiffaaEnc
namespace Go.Proofs.Ytfgoangcckiffaa.Pd
open Go.RowKit Go.Proofs.YtfgoangcckiffaaW.PrintWords Go.Proofs.YtfgoangcckiffaaW.PrintLast Go.Proofs.YtfgoangcckiffaaW.PrintMore
open Go.Proofs.Ytfgoangcckiffaa.Good Go.Proofs.Ytfgoangcckiffaa.Tk Go.Proofs.Ytfgoangcckiffaa.Dc Go.Proofs.Ytfgoangcckiffaa.Enc
set_option linter.unusedVariables false

theorem part (n : Nat) (P : Int) : ((n % 128 : Nat) : Int) * P + ((n / 128 : Nat) : Int) * (P * 128) = (n : Int) * P := by
  have h : (n : Int) = ((n % 128 : Nat) : Int) + ((n / 128 : Nat) : Int) * 128 := by omega
  rw [show ((n / 128 : Nat) : Int) * (P * 128) = (((n / 128 : Nat) : Int) * 128) * P by rw [Int.mul_comm P 128, Int.mul_assoc], ← Int.add_mul, ← h]

theorem numG_digs (j : Nat) : ∀ (n f i : Nat) (acc : Int) (r : List Int), n < 128 ^ (j + 1) → j < f → (0 < i → 0 < n) → numG f i acc (digs n ++ r) = some (acc + n * 128 ^ i, i + (digs n).length) := by
  induction j with
  | zero =>
    intro n f i acc r hn hf hi
    obtain ⟨f, rfl⟩ : ∃ m, f = m + 1 := ⟨f - 1, by omega⟩
    have hn' : n < 128 := by simpa using hn
    rw [digs_lo hn']
    exact numG_some (by omega) (by omega)
  | succ j ih =>
    intro n f i acc r hn hf hi
    obtain ⟨f, rfl⟩ : ∃ m, f = m + 1 := ⟨f - 1, by omega⟩
    by_cases h : n < 128
    · rw [digs_lo h]
      exact numG_some (by omega) (by omega)
    · rw [digs_hi h, List.cons_append, numG_on (by omega), ih (n / 128) f (i + 1) _ r (by rw [Nat.pow_succ] at hn; omega) (by omega) (by omega)]
      have hp := part n (128 ^ i)
      have e1 : ((n % 128 : Nat) : Int) + 128 - 128 = ((n % 128 : Nat) : Int) := by omega
      rw [e1, Int.pow_succ, Int.add_assoc, hp, List.length_cons, show i + 1 + (digs (n / 128)).length = i + ((digs (n / 128)).length + 1) by omega]

theorem numV_digs {n : Nat} (h : n < 34359738368) (r : List Int) : numV (digs n ++ r) = some ((n : Int), (digs n).length) := by
  have h5 : n < 128 ^ (4 + 1) := h
  have := numG_digs 4 n 5 0 0 r h5 (by omega) (by omega)
  rw [numV, this, Int.pow_zero, Int.mul_one, Int.zero_add, Nat.zero_add]

theorem numG_inv (f : Nat) : ∀ (i : Nat) (acc : Int) (l : List Int) (m : Int) (k : Nat), (∀ x ∈ l, 0 ≤ x ∧ x < 256) → numG f i acc l = some (m, k) → ∃ n : Nat, m = acc + n * 128 ^ i ∧ n < 128 ^ f ∧ i ≤ k ∧ l = digs n ++ l.drop (k - i) ∧ (digs n).length = k - i ∧ (0 < i → 0 < n) := by
  induction f with
  | zero => intro i acc l m k hb h; simp [numG] at h
  | succ f ih =>
    intro i acc l m k hb h
    cases l with
    | nil => simp [numG] at h
    | cons x r =>
      have hx := hb x (by simp)
      by_cases hs : x < 128
      · by_cases hc : i = 0 ∨ 0 < x
        · rw [numG_some hs hc] at h
          simp only [Option.some.injEq, Prod.mk.injEq] at h
          obtain ⟨rfl, rfl⟩ := h
          have hl : digs x.toNat = [x] := by rw [digs_lo (by omega)]; congr 1; omega
          refine ⟨x.toNat, by rw [Int.toNat_of_nonneg hx.1], ?_, by omega, ?_, ?_, by omega⟩
          · have : 128 ^ 1 ≤ 128 ^ (f + 1) := Nat.pow_le_pow_right (by decide) (by omega)
            omega
          · rw [hl, show i + 1 - i = 1 by omega]; rfl
          · rw [hl, show i + 1 - i = 1 by omega]; rfl
        · rw [numG_none hs hc] at h; cases h
      · rw [numG_on hs] at h
        obtain ⟨n', h1, h2, h3, h4, h5, h6⟩ := ih _ _ _ _ _ (fun y hy => hb y (by simp [hy])) h
        have hn' := h6 (by omega)
        have hd : ¬ n' * 128 + (x - 128).toNat < 128 := by omega
        have e1 : (n' * 128 + (x - 128).toNat) % 128 = (x - 128).toNat := by omega
        have e2 : (n' * 128 + (x - 128).toNat) / 128 = n' := by omega
        have e3 : ((x - 128).toNat : Int) + 128 = x := by omega
        have hl : digs (n' * 128 + (x - 128).toNat) = x :: digs n' := by rw [digs_hi hd, e1, e2, e3]
        refine ⟨n' * 128 + (x - 128).toNat, ?_, by rw [Nat.pow_succ]; omega, by omega, ?_, ?_, by omega⟩
        · have hp := part (n' * 128 + (x - 128).toNat) (128 ^ i)
          rw [e1, e2] at hp
          rw [h1, ← hp, Int.pow_succ, ← Int.add_assoc]
          congr 2
          rw [show ((x - 128).toNat : Int) = x - 128 by omega]
        · rw [hl, show k - i = (k - (i + 1)) + 1 by omega, List.drop_succ_cons, List.cons_append, ← h4]
        · rw [hl, List.length_cons, h5]; omega

theorem numV_inv {l : List Int} {m : Int} {k : Nat} (hb : ∀ x ∈ l, 0 ≤ x ∧ x < 256) (h : numV l = some (m, k)) : ∃ n : Nat, m = n ∧ n < 34359738368 ∧ l = digs n ++ l.drop k ∧ (digs n).length = k := by
  obtain ⟨n, h1, h2, h3, h4, h5, h6⟩ := numG_inv 5 0 0 l m k hb h
  exact ⟨n, by simpa using h1, by simpa using h2, by simpa using h4, by simpa using h5⟩

theorem bitsG_b4 {b : Int} (h0 : 0 ≤ b) (h1 : b < 4294967296) (r : List Int) : bitsG 4 0 0 (b4 b ++ r) = some (b, r) := by
  simp only [b4, List.cons_append, List.nil_append, bitsG]
  congr 2
  simp only [show (256 : Int) ^ 0 = 1 by decide, show (256 : Int) ^ (0 + 1) = 256 by decide, show (256 : Int) ^ (0 + 1 + 1) = 65536 by decide, show (256 : Int) ^ (0 + 1 + 1 + 1) = 16777216 by decide]
  omega

theorem bitsG_inv {l r : List Int} {b : Int} (hb : ∀ x ∈ l, 0 ≤ x ∧ x < 256) (h : bitsG 4 0 0 l = some (b, r)) : 0 ≤ b ∧ b < 4294967296 ∧ l = b4 b ++ r := by
  match l, hb, h with
  | x0 :: x1 :: x2 :: x3 :: s, hb, h =>
    simp only [bitsG, Option.some.injEq, Prod.mk.injEq, show (256 : Int) ^ 0 = 1 by decide, show (256 : Int) ^ (0 + 1) = 256 by decide, show (256 : Int) ^ (0 + 1 + 1) = 65536 by decide, show (256 : Int) ^ (0 + 1 + 1 + 1) = 16777216 by decide] at h
    obtain ⟨h, rfl⟩ := h
    have h0 := hb x0 (by simp)
    have h1 := hb x1 (by simp)
    have h2 := hb x2 (by simp)
    have h3 := hb x3 (by simp)
    refine ⟨by omega, by omega, ?_⟩
    simp only [b4, List.cons_append, List.nil_append, List.cons.injEq, and_true]
    omega
  | [], _, h => simp [bitsG] at h
  | [_], _, h => simp [bitsG] at h
  | [_, _], _, h => simp [bitsG] at h
  | [_, _, _], _, h => simp [bitsG] at h

theorem numsG_all (es : List Int) : ∀ (acc r : List Int), (∀ e ∈ es, 0 ≤ e ∧ e < 34359738368) → numsG es.length acc (all es ++ r) = some (acc ++ es, r) := by
  induction es with
  | nil => intro acc r _; simp [numsG, all]
  | cons e es ih =>
    intro acc r he
    have h0 := he e (by simp)
    have h1 := numV_digs (n := e.toNat) (by omega) (all es ++ r)
    rw [List.length_cons, show all (e :: es) ++ r = digs e.toNat ++ (all es ++ r) by simp [all]]
    rw [numsG, h1]
    simp only [List.drop_left]
    rw [ih _ _ (fun x hx => he x (by simp [hx])), Int.toNat_of_nonneg h0.1]
    simp

theorem numsG_inv (n : Nat) : ∀ (acc l es r : List Int), (∀ x ∈ l, 0 ≤ x ∧ x < 256) → numsG n acc l = some (es, r) → ∃ es', es = acc ++ es' ∧ es'.length = n ∧ l = all es' ++ r := by
  induction n with
  | zero => intro acc l es r _ h; simp only [numsG, Option.some.injEq, Prod.mk.injEq] at h; exact ⟨[], by simp [h.1], rfl, by simp [all, h.2]⟩
  | succ n ih =>
    intro acc l es r hb h
    rw [numsG] at h
    cases hn : numV l with
    | none => rw [hn] at h; cases h
    | some mk =>
      obtain ⟨m, k⟩ := mk
      rw [hn] at h
      obtain ⟨q, h1, h2, h3, h4⟩ := numV_inv hb hn
      obtain ⟨es', e1, e2, e3⟩ := ih _ _ _ _ (fun x hx => hb x (List.mem_of_mem_drop hx)) h
      refine ⟨m :: es', by rw [e1]; simp, by simp [e2], ?_⟩
      rw [show all (m :: es') ++ r = digs m.toNat ++ (all es' ++ r) by simp [all], ← e3, h1, Int.toNat_natCast]
      exact h3

theorem dec_enc {f t b : Int} {es : List Int} (hg : goodV f t es = 0) (h0 : 0 ≤ b) (h1 : b < 4294967296) : decV (encV f t b es) = some (f, t, b, es) := by
  obtain ⟨hl, f0, f1, t0, t1, hi⟩ := good_ok hg
  have he := idx_all es 0 (by omega) hi
  rw [show encV f t b es = 183 :: (digs f.toNat ++ (digs t.toNat ++ (b4 b ++ (digs es.length ++ (all es ++ []))))) by simp [encV]]
  simp only [decV, if_true, dec1]
  rw [numV_digs (by omega)]
  simp only [List.drop_left, dec2]
  rw [numV_digs (by omega)]
  simp only [List.drop_left]
  rw [bitsG_b4 h0 h1]
  simp only [dec2b, dec3]
  rw [numV_digs (by omega)]
  simp only [List.drop_left]
  rw [if_neg (by omega), Int.toNat_natCast, numsG_all es [] [] (fun e h => by have := he e h; omega)]
  simp only [dec3b, dec4, List.nil_append]
  rw [Int.toNat_of_nonneg f0, Int.toNat_of_nonneg t0, if_pos ⟨trivial, hg⟩]

theorem enc_dec {l : List Int} {f t b : Int} {es : List Int} (hb : ∀ x ∈ l, 0 ≤ x ∧ x < 256) (h : decV l = some (f, t, b, es)) : l = encV f t b es ∧ goodV f t es = 0 ∧ 0 ≤ b ∧ b < 4294967296 := by
  cases l with
  | nil => simp [decV] at h
  | cons x l1 =>
  rw [decV] at h
  split at h
  case isFalse => cases h
  case isTrue hx =>
  subst hx
  have hb1 : ∀ x ∈ l1, 0 ≤ x ∧ x < 256 := fun y hy => hb y (by simp [hy])
  rw [dec1] at h
  cases hn1 : numV l1 with
  | none => rw [hn1] at h; cases h
  | some mk =>
  obtain ⟨m1, k1⟩ := mk
  rw [hn1] at h
  simp only at h
  obtain ⟨n1, e1, s1, q1, p1⟩ := numV_inv hb1 hn1
  have hb2 : ∀ x ∈ l1.drop k1, 0 ≤ x ∧ x < 256 := fun y hy => hb1 y (List.mem_of_mem_drop hy)
  rw [dec2] at h
  cases hn2 : numV (l1.drop k1) with
  | none => rw [hn2] at h; cases h
  | some mk =>
  obtain ⟨m2, k2⟩ := mk
  rw [hn2] at h
  simp only at h
  obtain ⟨n2, e2, s2, q2, p2⟩ := numV_inv hb2 hn2
  have hb3 : ∀ x ∈ (l1.drop k1).drop k2, 0 ≤ x ∧ x < 256 := fun y hy => hb2 y (List.mem_of_mem_drop hy)
  generalize (l1.drop k1).drop k2 = l3 at *
  generalize l1.drop k1 = l2 at *
  cases hn3 : bitsG 4 0 0 l3 with
  | none => rw [hn3] at h; cases h
  | some br =>
  obtain ⟨b', l4⟩ := br
  rw [hn3] at h
  simp only [dec2b] at h
  obtain ⟨v0, v1, q3⟩ := bitsG_inv hb3 hn3
  have hb4 : ∀ x ∈ l4, 0 ≤ x ∧ x < 256 := fun y hy => hb3 y (by rw [q3]; simp [hy])
  rw [dec3] at h
  cases hn4 : numV l4 with
  | none => rw [hn4] at h; cases h
  | some mk =>
  obtain ⟨m4, k4⟩ := mk
  rw [hn4] at h
  simp only at h
  obtain ⟨n4, e4, s4, q4, p4⟩ := numV_inv hb4 hn4
  have hb5 : ∀ x ∈ l4.drop k4, 0 ≤ x ∧ x < 256 := fun y hy => hb4 y (List.mem_of_mem_drop hy)
  generalize l4.drop k4 = l5 at *
  split at h
  case isTrue => cases h
  case isFalse hle =>
  cases hn5 : numsG m4.toNat [] l5 with
  | none => rw [hn5] at h; cases h
  | some er =>
  obtain ⟨es', l6⟩ := er
  rw [hn5] at h
  simp only [dec3b, dec4] at h
  obtain ⟨es'', g1, g2, g3⟩ := numsG_inv _ _ _ _ _ hb5 hn5
  split at h
  case isFalse => cases h
  case isTrue hgd =>
  simp only [Option.some.injEq, Prod.mk.injEq] at h
  obtain ⟨rfl, rfl, rfl, rfl⟩ := h
  obtain ⟨rfl, hgd⟩ := hgd
  simp only [List.nil_append] at g1
  subst g1
  subst e1 e2 e4
  refine ⟨?_, hgd, v0, v1⟩
  rw [Int.toNat_natCast] at g2
  subst g2
  rw [q1, q2, q3, q4, g3]
  simp [encV]

/-- a beginning of what is written is no witness -/
theorem dec_none {l : List Int} (h : ∀ f t b es, decV l ≠ some (f, t, b, es)) : decV l = none := by
  cases hd : decV l with
  | none => rfl
  | some x => obtain ⟨f, t, b, es⟩ := x; exact absurd hd (h _ _ _ _)
end Go.Proofs.Ytfgoangcckiffaa.Pd
