/- This text proves that the reference's functions give just the one form's bytes: Enc's theorems, of another print of the same functions. -/
import Derived.Test.YtfgoangcckiffaaEnc
import Derived.Test.YtfgoangcckiffaaPWitnessDecodesx2
import Derived.Test.YtfgoangcckiffaaPWitnessDecodesx1
namespace Go.Proofs.Ytfgoangcckiffaa.Eb
open Go.RowKit Go.Proofs.YtfgoangcckiffaaW.PrintWords Go.Proofs.YtfgoangcckiffaaW.PrintLast Go.Proofs.YtfgoangcckiffaaW.PrintMore
open Go.Proofs.Ytfgoangcckiffaa.Good Go.Proofs.Ytfgoangcckiffaa.PWitnessDecodes
open Go.Proofs.Ytfgoangcckiffaa.Enc (digs digs_lo digs_hi or128 digs_len b4 all encV good_ok idx_all)
set_option linter.unusedVariables false
set_option linter.unusedSimpArgs false

theorem num_f (k : Nat) : ∀ (n : Nat) (l : List Int) (K : Nat), n < 128 ^ (k + 1) → n < 9223372036854775808 → l.length + k < 140737488355328 → k < K → brambleref16_Number.l0 K n l = some (l ++ digs n) := by
  induction k with
  | zero =>
    intro n l K hn hm hl hK
    obtain ⟨K, rfl⟩ : ∃ m, K = m + 1 := ⟨K - 1, by omega⟩
    have hn' : n < 128 := by simpa using hn
    rw [digs_lo hn']
    simp only [brambleref16_Number.l0]
    rw [if_neg (by omega), if_pos (by omega)]
    congr 3
    omega
  | succ k ih =>
    intro n l K hn hm hl hK
    obtain ⟨K, rfl⟩ : ∃ m, K = m + 1 := ⟨K - 1, by omega⟩
    simp only [brambleref16_Number.l0]
    by_cases h : n < 128
    · rw [digs_lo h, if_neg (by omega), if_pos (by omega)]
      congr 3
      omega
    · rw [digs_hi h, if_pos (by omega), if_pos (by omega)]
      have h1 := ih (n / 128) (l ++ [((n % 128 : Nat) : Int) + 128]) K (by rw [Nat.pow_succ] at hn; omega) (by omega) (by simp; omega) (by omega)
      have e1 : (n : Int).tmod 128 = ((n % 128 : Nat) : Int) := by rw [Int.tmod_eq_emod_of_nonneg (by omega)]; omega
      have e2 : (n : Int).tdiv 128 = ((n / 128 : Nat) : Int) := by rw [Int.tdiv_eq_ediv_of_nonneg (by omega)]; omega
      rw [e1, e2]
      rw [show wrap64 ((n / 128 : Nat) : Int) = ((n / 128 : Nat) : Int) from by unfold wrap64; omega, show wrap64 (((n % 128 : Nat) : Int) + 128) % 256 = ((n % 128 : Nat) : Int) + 128 from by unfold wrap64; omega]
      simpa using h1

theorem number_f (n K : Nat) (hm : n < 9223372036854775808) (hK : 9 ≤ K) : brambleref16_Number.f K n = some (digs n) := by
  simpa [brambleref16_Number.f] using num_f 8 n [] K (by omega) hm (by simp) (by omega)

theorem err_l0 (a b c : Int) (l : List Int) (hl : l.length < 9223372036854775807) (d : Nat) : ∀ (i : Nat) (K : Nat), i ≤ l.length → l.length - i = d → d < K →
    brambleref16_Error.l0 K i a b c l = some (if 0 ≤ idxBad (l.drop i) i then 1 else 0) := by
  induction d with
  | zero =>
    intro i K hi hd hK
    obtain ⟨K, rfl⟩ : ∃ m, K = m + 1 := ⟨K - 1, by omega⟩
    simp only [brambleref16_Error.l0]
    rw [if_neg (by omega), List.drop_eq_nil_of_le (by omega)]
    rfl
  | succ d ih =>
    intro i K hi hd hK
    obtain ⟨K, rfl⟩ : ∃ m, K = m + 1 := ⟨K - 1, by omega⟩
    simp only [brambleref16_Error.l0]
    have hlt : i < l.length := by omega
    have hrd : rd l i = l[i] := by simp [rd, hlt]
    rw [if_pos (by omega), if_pos (by omega), hrd]
    by_cases hb : badE l[i] = true
    · rw [idxBad_yes hlt hb, if_pos (show (0 : Int) ≤ i from by omega)]
      unfold badE at hb
      by_cases h1 : l[i] < 1
      · rw [if_pos h1]
      · rw [if_neg h1, if_pos (by simpa [h1] using hb)]
    · rw [idxBad_no hlt hb]
      unfold badE at hb
      simp only [Bool.or_eq_true, decide_eq_true_eq, not_or] at hb
      rw [if_neg hb.1, if_neg hb.2, show wrap64 ((i : Int) + 1) = ((i + 1 : Nat) : Int) from by unfold wrap64; omega]
      rw [ih (i + 1) K (by omega) (by omega) (by omega)]
      rw [show ((i + 1 : Nat) : Int) = (i : Int) + 1 from by omega]

theorem error_f (f t b : Int) (l : List Int) (K : Nat) (hl : l.length < 9223372036854775807) (hK : l.length + 2 ≤ K) : brambleref16_Error.f K f t b l = some (goodV f t l) := by
  obtain ⟨K, rfl⟩ : ∃ m, K = m + 1 := ⟨K - 1, by omega⟩
  unfold brambleref16_Error.f goodV
  have hz := err_l0 f t b l hl l.length 0 K (by omega) (by omega) (by omega)
  simp only [List.drop_zero, Int.ofNat_zero] at hz
  by_cases h1 : (l.length : Int) > 1024
  · rw [if_pos h1, if_pos h1]
  rw [if_neg h1, if_neg h1]
  by_cases h2 : f < 0
  · rw [if_pos h2, if_pos (by omega)]; simp [brambleref16_Error.j0]
  rw [if_neg h2]
  by_cases h3 : f > 2147483647
  · rw [if_pos h3, if_pos (by omega)]; simp [brambleref16_Error.j0]
  rw [if_neg h3]
  by_cases h4 : t < 0
  · rw [if_pos h4, if_pos (by omega)]; simp [brambleref16_Error.j0]
  rw [if_neg h4]
  simp only [brambleref16_Error.j0]
  by_cases h5 : t > 2147483647
  · rw [if_pos (by simpa using h5), if_pos (by omega)]
  rw [if_neg (by simpa using h5), hz]
  by_cases h6 : 0 ≤ idxBad l 0
  · rw [if_pos h6, if_pos (by omega)]
  · rw [if_neg h6, if_neg (by omega)]

theorem enc_l1 (a b c : Int) (l : List Int) (hl : l.length ≤ 1024) (he : ∀ e ∈ l, 1 ≤ e ∧ e ≤ 1024) (d : Nat) : ∀ (i : Nat) (x : List Int) (K : Nat), i ≤ l.length → l.length - i = d → d + 9 < K → x.length + 9 * d < 1000000 →
    brambleref16_Encode.l1 K x i a b c l = some (x ++ all (l.drop i)) := by
  induction d with
  | zero =>
    intro i x K hi hd hK hx
    obtain ⟨K, rfl⟩ : ∃ m, K = m + 1 := ⟨K - 1, by omega⟩
    simp only [brambleref16_Encode.l1]
    rw [if_neg (by omega), List.drop_eq_nil_of_le (by omega)]
    simp [all]
  | succ d ih =>
    intro i x K hi hd hK hx
    obtain ⟨K, rfl⟩ : ∃ m, K = m + 1 := ⟨K - 1, by omega⟩
    simp only [brambleref16_Encode.l1]
    have hlt : i < l.length := by omega
    have hrd : rd l i = l[i] := by simp [rd, hlt]
    have hb := he l[i] (List.getElem_mem _)
    have h9 := digs_len l[i].toNat 8 (by omega)
    rw [if_pos (by omega), if_pos (by omega), hrd]
    obtain ⟨n, hn⟩ : ∃ n : Nat, l[i] = n := ⟨l[i].toNat, by omega⟩
    rw [hn, number_f n K (by omega) (by omega)]
    rw [hn, Int.toNat_natCast] at h9
    simp only [Option.bind_some]
    rw [if_pos (by omega), show wrap64 ((i : Int) + 1) = ((i + 1 : Nat) : Int) from by unfold wrap64; omega]
    rw [ih (i + 1) (x ++ digs n) K (by omega) (by omega) (by omega) (by simp; omega)]
    rw [List.drop_eq_getElem_cons hlt]
    simp [all, hn]

theorem encode_f (f t b : Int) (l : List Int) (K : Nat) (h : goodV f t l = 0) (hb : 0 ≤ b ∧ b < 4294967296) (hK : 2000 ≤ K) : brambleref16_Encode.f K f t b l = some (encV f t b l) := by
  obtain ⟨hl, f0, f1, t0, t1, hi⟩ := good_ok h
  have he := idx_all l 0 (by omega) hi
  obtain ⟨F, rfl⟩ : ∃ n : Nat, f = n := ⟨f.toNat, by omega⟩
  obtain ⟨T, rfl⟩ : ∃ n : Nat, t = n := ⟨t.toNat, by omega⟩
  obtain ⟨B, rfl⟩ : ∃ n : Nat, b = n := ⟨b.toNat, by omega⟩
  have hF := digs_len F 8 (by omega)
  have hT := digs_len T 8 (by omega)
  have hL := digs_len l.length 8 (by omega)
  unfold brambleref16_Encode.f
  rw [number_f F K (by omega) (by omega), number_f T K (by omega) (by omega)]
  simp only [Option.bind_some]
  rw [if_pos (by simp; omega), if_pos (by simp; omega)]
  rw [show wrap64 (B : Int) = (B : Int) from by unfold wrap64; omega]
  obtain ⟨K, rfl⟩ : ∃ m, K = m + 5 := ⟨K - 5, by omega⟩
  have w1 : wrap64 ((0 : Int) + 1) = 1 := by unfold wrap64; omega
  have w2 : wrap64 ((1 : Int) + 1) = 2 := by unfold wrap64; omega
  have w3 : wrap64 ((2 : Int) + 1) = 3 := by unfold wrap64; omega
  have w4 : wrap64 ((3 : Int) + 1) = 4 := by unfold wrap64; omega
  have step : ∀ n : Nat, n < 4294967296 → (Int.tmod (n : Int) 256) % 256 = ((n % 256 : Nat) : Int) ∧ wrap64 (Int.tdiv (n : Int) 256) = ((n / 256 : Nat) : Int) := by
    intro n hn
    rw [Int.tmod_eq_emod_of_nonneg (by omega), Int.tdiv_eq_ediv_of_nonneg (by omega)]
    unfold wrap64
    omega
  have d1 : B / 256 / 256 = B / 65536 := by omega
  have d2 : B / 256 / 256 / 256 = B / 16777216 := by omega
  simp only [brambleref16_Encode.l0]
  rw [if_pos (by decide), if_pos (by simp; omega), (step B (by omega)).1, (step B (by omega)).2, w1]
  rw [if_pos (by decide), if_pos (by simp; omega), (step (B / 256) (by omega)).1, (step (B / 256) (by omega)).2, w2]
  rw [if_pos (by decide), if_pos (by simp; omega), (step (B / 256 / 256) (by omega)).1, (step (B / 256 / 256) (by omega)).2, w3]
  rw [if_pos (by decide), if_pos (by simp; omega), (step (B / 256 / 256 / 256) (by omega)).1, (step (B / 256 / 256 / 256) (by omega)).2, w4]
  rw [if_neg (by decide), number_f l.length K (by omega) (by omega)]
  simp only [Option.bind_some]
  rw [if_pos (by simp; omega)]
  have h1 := enc_l1 (F : Int) (T : Int) (B : Int) l hl he l.length 0
  simp only [Int.natCast_zero, List.drop_zero] at h1
  rw [h1 _ K (by omega) (by omega) (by omega) (by simp; omega)]
  unfold encV
  simp only [d1, d2, b4, Int.toNat_natCast, Int.natCast_emod, Int.natCast_ediv, Int.cast_ofNat_Int, List.append_assoc, List.singleton_append, List.cons_append, List.nil_append, show B / 65536 / 256 = B / 16777216 from by omega, show (B : Int) / 16777216 % 256 = (B : Int) / 16777216 from by omega]
end Go.Proofs.Ytfgoangcckiffaa.Eb
