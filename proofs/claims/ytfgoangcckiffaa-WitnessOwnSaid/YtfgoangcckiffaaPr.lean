/- This text proves what the reference's reading of any bytes answers: plain lists. -/
import Derived.Test.YtfgoangcckiffaaPd
import Derived.Test.YtfgoangcckiffaaEb
import Derived.Test.YtfgoangcckiffaaRdc
namespace Go.Proofs.Ytfgoangcckiffaa.Pr
open Go.RowKit Go.Proofs.YtfgoangcckiffaaW.PrintWords Go.Proofs.YtfgoangcckiffaaW.PrintLast Go.Proofs.YtfgoangcckiffaaW.PrintMore
open Go.Proofs.Ytfgoangcckiffaa.Good Go.Proofs.Ytfgoangcckiffaa.Tk Go.Proofs.Ytfgoangcckiffaa.Dc Go.Proofs.Ytfgoangcckiffaa.Pd Go.Proofs.Ytfgoangcckiffaa.PWitnessDecodes Go.Proofs.Ytfgoangcckiffaa.Rdc
open Go.Proofs.Ytfgoangcckiffaa.Enc (digs digs_lo digs_hi digs_len b4 all encV good_ok idx_all)
set_option linter.unusedVariables false

theorem w64 {x : Int} (h0 : -9223372036854775808 ≤ x) (h1 : x < 9223372036854775808) : wrap64 x = x := by unfold wrap64; omega

def refN : Nat → Nat → Int → List Int → Option (Int × Nat)
  | 0, _, _, _ => none
  | _ + 1, _, _, [] => none
  | f + 1, i, acc, x :: r => if x < 128 then some (acc + x * 128 ^ i, i + 1) else refN f (i + 1) (acc + (x - 128) * 128 ^ i) r
theorem refN_numG (f : Nat) : ∀ (i : Nat) (acc : Int) (l : List Int) (x : Int × Nat), numG f i acc l = some x → refN f i acc l = some x := by
  induction f with
  | zero => intro i acc l x h; simp [numG] at h
  | succ f ih =>
    intro i acc l x h
    cases l with
    | nil => simp [numG] at h
    | cons y r =>
      rw [numG] at h
      rw [refN]
      split at h
      · rename_i hs
        rw [if_pos hs]
        split at h
        · exact h
        · cases h
      · rename_i hs
        rw [if_neg hs]
        exact ih _ _ _ _ h

/-- what the reference reads at a place -/
def refNum (b : List Int) (a : Nat) : Int × Nat := match refN 5 0 0 (b.drop a) with
  | some (n, k) => (n, a + k)
  | none => (0, b.length)

theorem rnum (b : List Int) (hb : ∀ x ∈ b, 0 ≤ x ∧ x < 256) (hl : b.length < 4611686018427387904) (a : Nat) (ha : a < 4611686018427387904) : ∀ (f i : Nat) (acc : Int) (K : Nat), f + i = 5 → 2 * f + 2 ≤ K → 0 ≤ acc → acc < 128 ^ i →
    brambleref16_number.l0 K b a acc (128 ^ i) ((a + i : Nat) : Int) = some (match refN f i acc (b.drop (a + i)) with | some (n, k) => (n, ((a + k : Nat) : Int)) | none => (0, (b.length : Int))) := by
  intro f
  induction f with
  | zero =>
    intro i acc K hi hK h0 h1
    obtain ⟨K, rfl⟩ : ∃ m, K = m + 2 := ⟨K - 2, by omega⟩
    simp only [brambleref16_number.l0, brambleref16_number.j1, refN]
    rw [w64 (by omega) (by omega)]
    split
    · rw [if_neg (by simp; omega)]
    · rw [if_neg (by simp)]
  | succ f ih =>
    intro i acc K hi hK h0 h1
    obtain ⟨K, rfl⟩ : ∃ m, K = m + 2 := ⟨K - 2, by omega⟩
    simp only [brambleref16_number.l0, brambleref16_number.j1]
    rw [w64 (x := (a : Int) + 5) (by omega) (by omega)]
    by_cases hlt : a + i < b.length
    · have hd : b.drop (a + i) = b[a + i] :: b.drop (a + (i + 1)) := List.drop_eq_getElem_cons hlt
      have hx := hb b[a + i] (List.getElem_mem hlt)
      rw [show rd b ((a + i : Nat) : Int) = b[a + i] from by rw [rd, Int.toNat_natCast]; simp [hlt]]
      rw [hd]
      generalize b[a + i] = x at hx
      have hP : (128 : Int) ^ i ≤ 268435456 := by
        have : 128 ^ i ≤ 128 ^ 4 := Nat.pow_le_pow_right (by decide) (by omega)
        have h' : ((128 ^ i : Nat) : Int) ≤ ((128 ^ 4 : Nat) : Int) := by exact_mod_cast this
        simpa using h'
      have hP0 : (0 : Int) < 128 ^ i := Int.pow_pos (by omega)
      have hS : (128 : Int) ^ (i + 1) = 128 * 128 ^ i := by rw [Int.pow_succ, Int.mul_comm]
      rw [if_pos (by omega), if_pos (by simp; omega), if_pos (by omega), if_pos (by omega)]
      rw [w64 (x := x) (by omega) (by omega), Int.tmod_eq_emod_of_nonneg (by omega)]
      have hy0 : 0 ≤ x % 128 := by omega
      have hy1 : x % 128 ≤ 127 := by omega
      have hm0 : 0 ≤ (x % 128) * 128 ^ i := Int.mul_nonneg hy0 (by omega)
      have hm1 : (x % 128) * 128 ^ i ≤ 127 * 128 ^ i := Int.mul_le_mul_of_nonneg_right hy1 (by omega)
      rw [w64 (x := (x % 128) * 128 ^ i) (by omega) (by omega), w64 (x := acc + (x % 128) * 128 ^ i) (by omega) (by omega), w64 (x := 128 * 128 ^ i) (by omega) (by omega), w64 (x := ((a + i : Nat) : Int) + 1) (by omega) (by omega)]
      rw [refN]
      by_cases hs : x < 128
      · rw [if_pos hs, if_pos hs, show x % 128 = x by omega]
        simp only [Option.some.injEq, Prod.mk.injEq, true_and]
        omega
      · rw [if_neg hs, if_neg hs, show x % 128 = x - 128 by omega, ← hS, show ((a + i : Nat) : Int) + 1 = ((a + (i + 1) : Nat) : Int) by omega]
        rw [show x % 128 = x - 128 by omega] at hm0 hm1
        exact ih (i + 1) _ K (by omega) (by omega) (by omega) (by omega)
    · rw [if_neg (by omega), if_neg (by simp), List.drop_eq_nil_of_le (by omega)]
      rfl

theorem number_f (b : List Int) (hb : ∀ x ∈ b, 0 ≤ x ∧ x < 256) (hl : b.length < 4611686018427387904) (a : Nat) (ha : a < 4611686018427387904) (K : Nat) (hK : 12 ≤ K) : brambleref16_number.f K b a = some ((refNum b a).1, ((refNum b a).2 : Int)) := by
  have h := rnum b hb hl a ha 5 0 0 K (by omega) (by omega) (by omega) (by decide)
  rw [Nat.add_zero, Int.pow_zero] at h
  rw [brambleref16_number.f, h, refNum]
  cases refN 5 0 0 (b.drop a) with
  | none => rfl
  | some x => rfl

theorem refNum_digs {b : List Int} {a n : Nat} {r : List Int} (h : b.drop a = digs n ++ r) (hn : n < 34359738368) : refNum b a = ((n : Int), a + (digs n).length) ∧ b.drop (a + (digs n).length) = r := by
  refine ⟨?_, ?_⟩
  · rw [refNum, h, refN_numG _ _ _ _ _ (show numG 5 0 0 (digs n ++ r) = _ from numV_digs hn r)]
  · rw [← List.drop_drop, h, List.drop_left]

theorem refNum_le (b : List Int) (a : Nat) : (refNum b a).2 ≤ b.length := by
  unfold refNum
  have key : ∀ (f i : Nat) (acc : Int) (l : List Int) (n : Int) (k : Nat), refN f i acc l = some (n, k) → k ≤ i + l.length := by
    intro f
    induction f with
    | zero => intro i acc l n k h; simp [refN] at h
    | succ f ih =>
      intro i acc l n k h
      cases l with
      | nil => simp [refN] at h
      | cons x r =>
        rw [refN] at h
        split at h
        · simp only [Option.some.injEq, Prod.mk.injEq] at h
          simp; omega
        · have := ih _ _ _ _ _ h
          simp; omega
  cases h : refN 5 0 0 (b.drop a) with
  | none => exact Nat.le_refl _
  | some x =>
    obtain ⟨n, k⟩ := x
    have := key _ _ _ _ _ _ h
    simp at this
    simp only
    by_cases hk : a ≤ b.length
    · omega
    · rw [List.drop_eq_nil_of_le (by omega)] at h
      simp [refN] at h

/-- a byte, or 0 -/
def rdz (b : List Int) (j : Nat) : Int := if (j : Int) < b.length then rd b j else 0
theorem rdz_bd {b : List Int} (hb : ∀ x ∈ b, 0 ≤ x ∧ x < 256) (j : Nat) : 0 ≤ rdz b j ∧ rdz b j < 256 := by
  unfold rdz
  split
  · rename_i h
    have h' : j < b.length := by omega
    have := hb b[j] (List.getElem_mem h')
    rw [show rd b (j : Int) = b[j] from by rw [rd, Int.toNat_natCast]; simp [h']]
    exact this
  · omega

theorem bstep (b : List Int) (hb : ∀ x ∈ b, 0 ≤ x ∧ x < 256) (a j k : Nat) (x f t u : Int) (ha : a < 4611686018427387904) (hj : j < 10) (h0 : 0 ≤ x) (h1 : x < 1099511627776) :
    brambleref16_Decode.l0 (k + 1) b a x j f t u = brambleref16_Decode.l0 k b a (256 * x + rdz b (a + j)) ((j : Int) - 1) f t u := by
  have hz := rdz_bd hb (a + j)
  rw [brambleref16_Decode.l0, if_pos (by omega), w64 (x := (a : Int) + j) (by omega) (by omega), w64 (x := 256 * x) (by omega) (by omega), w64 (x := (j : Int) - 1) (by omega) (by omega), show (a : Int) + j = ((a + j : Nat) : Int) by omega]
  unfold rdz at hz ⊢
  split
  · rename_i h
    rw [if_pos h] at hz
    rw [if_pos (by omega), w64 (x := rd b ((a + j : Nat) : Int)) (by omega) (by omega), w64 (by omega) (by omega)]
  · rw [Int.add_zero]

def rbits (b : List Int) (a : Nat) : Int := 256 * (256 * (256 * (rdz b (a + 3)) + rdz b (a + 2)) + rdz b (a + 1)) + rdz b (a + 0)

theorem bits_f (b : List Int) (hb : ∀ x ∈ b, 0 ≤ x ∧ x < 256) (hl : b.length < 4611686018427387904) (a k : Nat) (f t u : Int) (ha : a < 4611686018427387900) (hk : 12 ≤ k) :
    brambleref16_Decode.l0 (k + 5) b a 0 3 f t u = brambleref16_Decode.l1 k b (refNum b (a + 4)).2 (refNum b (a + 4)).1 0 f t (rbits b a) [] ∧ 0 ≤ rbits b a ∧ rbits b a < 4294967296 := by
  have z3 := rdz_bd hb (a + 3)
  have z2 := rdz_bd hb (a + 2)
  have z1 := rdz_bd hb (a + 1)
  have z0 := rdz_bd hb (a + 0)
  have hr : 0 ≤ rbits b a ∧ rbits b a < 4294967296 := by unfold rbits; omega
  refine ⟨?_, hr⟩
  rw [show k + 5 = (k + 4) + 1 by omega]
  have s3 := bstep b hb a 3 (k + 4) 0 f t u (by omega) (by omega) (by omega) (by omega)
  have s2 := bstep b hb a 2 (k + 3) (256 * 0 + rdz b (a + 3)) f t u (by omega) (by omega) (by omega) (by omega)
  have s1 := bstep b hb a 1 (k + 2) (256 * (256 * 0 + rdz b (a + 3)) + rdz b (a + 2)) f t u (by omega) (by omega) (by omega) (by omega)
  have s0 := bstep b hb a 0 (k + 1) (256 * (256 * (256 * 0 + rdz b (a + 3)) + rdz b (a + 2)) + rdz b (a + 1)) f t u (by omega) (by omega) (by omega) (by omega)
  simp only [show ((3 : Nat) : Int) = 3 from rfl, show ((2 : Nat) : Int) = 2 from rfl, show ((1 : Nat) : Int) = 1 from rfl, show ((0 : Nat) : Int) = 0 from rfl, show (3 : Int) - 1 = 2 from rfl, show (2 : Int) - 1 = 1 from rfl, show (1 : Int) - 1 = 0 from rfl] at s3 s2 s1 s0
  rw [s3, s2, s1, s0, brambleref16_Decode.l0, if_neg (by omega), w64 (x := (a : Int) + 4) (by omega) (by omega), show (a : Int) + 4 = ((a + 4 : Nat) : Int) by omega, number_f b hb hl (a + 4) (by omega) k hk]
  simp only [Option.bind_some, Int.mul_zero, Int.zero_add]
  have h4 : (256 * (256 * (256 * rdz b (a + 3) + rdz b (a + 2)) + rdz b (a + 1)) + rdz b (a + 0)) = rbits b a := rfl
  rw [h4, Int.emod_eq_of_lt hr.1 hr.2]

/-- the edges that the reference reads -/
def refL : Nat → List Int → Nat → Int → Nat → List Int → List Int
  | 0, _, _, _, _, es => es
  | g + 1, b, a, n, i, es => if (i : Int) < n ∧ i < 1024 ∧ a < b.length then refL g b (refNum b a).2 n (i + 1) (es ++ [(refNum b a).1]) else es

def fin (b : List Int) (f t u : Int) (es : List Int) : Int × Int × Int × List Int × Int := if goodV f t es = 0 ∧ encV f t u es = b then (f, t, u, es, 0) else (0, 0, 0, [], 160)

theorem byteinj : ∀ (l m : List Int), (∀ x ∈ l, 0 ≤ x ∧ x < 256) → (∀ x ∈ m, 0 ≤ x ∧ x < 256) → (l.map fun n => UInt8.ofNat n.toNat) = (m.map fun n => UInt8.ofNat n.toNat) → l = m := by
  intro l
  induction l with
  | nil => intro m _ _ h; cases m <;> simp at h ⊢
  | cons x r ih =>
    intro m h1 h2 h
    cases m with
    | nil => simp at h
    | cons y s =>
      simp only [List.map_cons, List.cons.injEq] at h
      have hx := h1 x (by simp)
      have hy := h2 y (by simp)
      have e : x.toNat = y.toNat := by
        have := congrArg UInt8.toNat h.1
        simpa [UInt8.toNat_ofNat, Nat.mod_eq_of_lt (show x.toNat < 256 by omega), Nat.mod_eq_of_lt (show y.toNat < 256 by omega)] using this
      rw [ih s (fun z hz => h1 z (by simp [hz])) (fun z hz => h2 z (by simp [hz])) h.2, show x = y by omega]

theorem son_inj {l m : List Int} (h1 : ∀ x ∈ l, 0 ≤ x ∧ x < 256) (h2 : ∀ x ∈ m, 0 ≤ x ∧ x < 256) : (strOfNums l).toList = (strOfNums m).toList ↔ l = m := by
  constructor
  · intro h
    rw [ByteArray.toList_eq, ByteArray.toList_eq, strOfNums_data, strOfNums_data] at h
    exact byteinj l m h1 h2 h
  · rintro rfl; rfl

theorem digs_bytes (j : Nat) : ∀ n : Nat, n < 128 ^ (j + 1) → ∀ x ∈ digs n, 0 ≤ x ∧ x < 256 := by
  induction j with
  | zero => intro n h x hx; have h' : n < 128 := by simpa using h
            rw [digs_lo h'] at hx; simp only [List.mem_singleton] at hx; omega
  | succ j ih =>
    intro n h x hx
    by_cases hn : n < 128
    · rw [digs_lo hn] at hx; simp only [List.mem_singleton] at hx; omega
    · rw [digs_hi hn] at hx
      simp only [List.mem_cons] at hx
      rcases hx with rfl | hx
      · omega
      · exact ih (n / 128) (by rw [Nat.pow_succ] at h; omega) x hx
theorem digs_b {n : Nat} (h : n < 34359738368) : ∀ x ∈ digs n, 0 ≤ x ∧ x < 256 := digs_bytes 4 n h

theorem enc_bytes {f t u : Int} {es : List Int} (hg : goodV f t es = 0) (h0 : 0 ≤ u) (h1 : u < 4294967296) : ∀ x ∈ encV f t u es, 0 ≤ x ∧ x < 256 := by
  obtain ⟨hl, f0, f1, t0, t1, hi⟩ := good_ok hg
  have he := idx_all es 0 (by omega) hi
  intro x hx
  simp only [encV, List.mem_append] at hx
  rcases hx with ((((hx | hx) | hx) | hx) | hx) | hx
  · simp only [List.mem_singleton] at hx; omega
  · exact digs_b (by omega) x hx
  · exact digs_b (by omega) x hx
  · simp only [b4, List.mem_cons, List.not_mem_nil, or_false] at hx; omega
  · exact digs_b (by omega) x hx
  · simp only [all, List.mem_flatten, List.mem_map] at hx
    obtain ⟨l, ⟨e, he1, rfl⟩, hx⟩ := hx
    have := he e he1
    exact digs_b (by omega) x hx

theorem j2_f (b : List Int) (hb : ∀ x ∈ b, 0 ≤ x ∧ x < 256) (f t u : Int) (es : List Int) (h0 : 0 ≤ u) (h1 : u < 4294967296) (he : es.length ≤ 1024) (K : Nat) (hK : 3000 ≤ K) : brambleref16_Decode.j2 K b f t u es = some (fin b f t u es) := by
  obtain ⟨K, rfl⟩ : ∃ m, K = m + 1 := ⟨K - 1, by omega⟩
  rw [brambleref16_Decode.j2, Eb.error_f f t u es K (by omega) (by omega)]
  simp only [Option.bind_some, fin]
  by_cases hg : goodV f t es = 0
  · rw [if_pos hg, Eb.encode_f f t u es K hg ⟨h0, h1⟩ (by omega)]
    simp only [Option.bind_some, son_inj (enc_bytes hg h0 h1) hb]
    by_cases hq : encV f t u es = b
    · rw [if_pos hq, if_pos ⟨hg, hq⟩]
    · rw [if_neg hq, if_neg (fun h => hq h.2)]
  · rw [if_neg hg, if_neg (fun h => hg h.1)]

theorem l1_f (b : List Int) (hb : ∀ x ∈ b, 0 ≤ x ∧ x < 256) (hl : b.length < 4611686018427387904) (f t u n : Int) (h0 : 0 ≤ u) (h1 : u < 4294967296) : ∀ (g a i : Nat) (es : List Int) (K : Nat), i + g = 1024 → a ≤ b.length → es.length = i → g + 3001 ≤ K →
    brambleref16_Decode.l1 K b a n i f t u es = some (fin b f t u (refL g b a n i es)) := by
  intro g
  induction g with
  | zero =>
    intro a i es K hi ha he hK
    obtain ⟨K, rfl⟩ : ∃ m, K = m + 1 := ⟨K - 1, by omega⟩
    have hj := j2_f b hb f t u es h0 h1 (by omega) K (by omega)
    rw [brambleref16_Decode.l1, refL]
    split
    · rw [if_neg (by omega), hj]
    · exact hj
  | succ g ih =>
    intro a i es K hi ha he hK
    obtain ⟨K, rfl⟩ : ∃ m, K = m + 1 := ⟨K - 1, by omega⟩
    have hj := j2_f b hb f t u es h0 h1 (by omega) K (by omega)
    rw [brambleref16_Decode.l1, refL]
    by_cases c1 : (i : Int) < n
    · by_cases c3 : a < b.length
      · rw [if_pos c1, if_pos (by omega), if_pos (by omega), number_f b hb hl a (by omega) K (by omega)]
        simp only [Option.bind_some]
        rw [if_pos (by omega), if_pos ⟨c1, by omega, c3⟩, w64 (by omega) (by omega), show (i : Int) + 1 = ((i + 1 : Nat) : Int) by omega]
        exact ih _ (i + 1) _ K (by omega) (refNum_le b a) (by simp; omega) (by omega)
      · rw [if_pos c1, if_pos (by omega), if_neg (by omega), hj, if_neg (by omega)]
    · rw [if_neg c1, hj, if_neg (fun h => c1 h.1)]

/-- what the reference reads -/
def ra1 (b : List Int) : Nat := (refNum b 1).2
def ra2 (b : List Int) : Nat := (refNum b (ra1 b)).2
def rFin (b : List Int) : Int × Int × Int × List Int × Int :=
  fin b (refNum b 1).1 (refNum b (ra1 b)).1 (rbits b (ra2 b)) (refL 1024 b (refNum b (ra2 b + 4)).2 (refNum b (ra2 b + 4)).1 0 [])

theorem decode_f (b : List Int) (hb : ∀ x ∈ b, 0 ≤ x ∧ x < 256) (hl : b.length < 4611686018427387000) (k : Nat) (hk : 4995 ≤ k) : brambleref16_Decode.f (k + 5) b = some (rFin b) := by
  have l1 := refNum_le b 1
  have l2 := refNum_le b (ra1 b)
  have l3 := refNum_le b (ra2 b + 4)
  have h1 := number_f b hb (by omega) 1 (by omega) (k + 5) (by omega)
  have h2 := number_f b hb (by omega) (ra1 b) (by unfold ra1; omega) (k + 5) (by omega)
  obtain ⟨h3, h4, h5⟩ := bits_f b hb (by omega) (ra2 b) k (refNum b 1).1 (refNum b (ra1 b)).1 0 (by unfold ra2; omega) (by omega)
  have h6 := l1_f b hb (by omega) (refNum b 1).1 (refNum b (ra1 b)).1 (rbits b (ra2 b)) (refNum b (ra2 b + 4)).1 h4 h5 1024 (refNum b (ra2 b + 4)).2 0 [] k (by omega) l3 rfl (by omega)
  have e1 : ((1 : Nat) : Int) = 1 := rfl
  rw [e1] at h1
  unfold brambleref16_Decode.f
  rw [h1, Option.bind_some]
  have e2 : ((refNum b 1).2 : Int) = (ra1 b : Int) := rfl
  simp only [e2]
  rw [h2, Option.bind_some]
  have e3 : ((refNum b (ra1 b)).2 : Int) = (ra2 b : Int) := rfl
  simp only [e3]
  have e0 : ((0 : Nat) : Int) = 0 := rfl
  rw [e0] at h6
  rw [h3, h6]
  unfold rFin
  with_reducible rfl

theorem digs_pos (n : Nat) : 0 < (digs n).length := by
  by_cases h : n < 128
  · rw [digs_lo h]; simp
  · rw [digs_hi h]; simp

theorem refL_all (b : List Int) (n : Int) : ∀ (es : List Int) (g a i : Nat) (acc : List Int), b.drop a = all es → es.length ≤ g → (i : Int) + es.length = n → n ≤ 1024 → (∀ e ∈ es, 0 ≤ e ∧ e < 34359738368) → refL g b a n i acc = acc ++ es := by
  intro es
  induction es with
  | nil =>
    intro g a i acc hd hg hi hn he
    cases g with
    | zero => simp [refL]
    | succ g =>
      rw [refL, if_neg (fun h => by have := h.1; simp at hi; omega)]
      simp
  | cons e es ih =>
    intro g a i acc hd hg hi hn he
    obtain ⟨g, rfl⟩ : ∃ m, g = m + 1 := ⟨g - 1, by simp at hg; omega⟩
    have he0 := he e (by simp)
    have hd' : b.drop a = digs e.toNat ++ all es := by rw [hd]; simp [all]
    obtain ⟨r1, r2⟩ := refNum_digs hd' (by omega)
    have hlt : a < b.length := by
      have h1 := congrArg List.length hd'
      have h2 := digs_pos e.toNat
      simp at h1; omega
    simp only [List.length_cons] at hg hi
    rw [refL, if_pos ⟨by omega, by omega, hlt⟩, r1]
    simp only
    rw [ih g _ (i + 1) _ r2 (by omega) (by omega) hn (fun x hx => he x (by simp [hx])), Int.toNat_of_nonneg he0.1]
    simp

theorem rdz_at {b l : List Int} {a j : Nat} {x : Int} (h : b.drop a = l) (hx : l[j]? = some x) : rdz b (a + j) = x := by
  subst h
  rw [List.getElem?_drop] at hx
  have hlt : a + j < b.length := by
    rcases Nat.lt_or_ge (a + j) b.length with h | h
    · exact h
    · rw [List.getElem?_eq_none h] at hx; cases hx
  rw [rdz, if_pos (by omega), rd, Int.toNat_natCast, List.getD_eq_getElem?_getD, hx]
  rfl

theorem read_good {f t u : Int} {es : List Int} (hg : goodV f t es = 0) (h0 : 0 ≤ u) (h1 : u < 4294967296) : rFin (encV f t u es) = (f, t, u, es, 0) := by
  obtain ⟨hl, f0, f1, t0, t1, hi⟩ := good_ok hg
  have he := idx_all es 0 (by omega) hi
  generalize hb : encV f t u es = b
  have d1 : b.drop 1 = digs f.toNat ++ (digs t.toNat ++ (b4 u ++ (digs es.length ++ all es))) := by rw [← hb]; simp [encV]
  obtain ⟨r1, d2⟩ := refNum_digs d1 (by omega)
  have a1 : ra1 b = 1 + (digs f.toNat).length := by rw [ra1, r1]
  rw [← a1] at d2
  obtain ⟨r2, d3⟩ := refNum_digs d2 (by omega)
  have a2 : ra2 b = ra1 b + (digs t.toNat).length := by rw [ra2, r2]
  rw [← a2] at d3
  have z0 : rdz b (ra2 b + 0) = u % 256 := rdz_at d3 (by simp [b4])
  have z1 : rdz b (ra2 b + 1) = u / 256 % 256 := rdz_at d3 (by simp [b4])
  have z2 : rdz b (ra2 b + 2) = u / 65536 % 256 := rdz_at d3 (by simp [b4])
  have z3 : rdz b (ra2 b + 3) = u / 16777216 := rdz_at d3 (by simp [b4])
  have hu : rbits b (ra2 b) = u := by rw [rbits, z0, z1, z2, z3]; omega
  have d4 : b.drop (ra2 b + 4) = digs es.length ++ all es := by rw [← List.drop_drop, d3]; rfl
  obtain ⟨r4, d5⟩ := refNum_digs d4 (by omega)
  have hL := refL_all b es.length es 1024 _ 0 [] d5 (by omega) (by omega) (by omega) (fun e h => by have := he e h; omega)
  rw [rFin, hu, r1, r2, r4]
  simp only
  rw [hL, Int.toNat_of_nonneg f0, Int.toNat_of_nonneg t0, List.nil_append, fin, if_pos ⟨hg, hb⟩]

/-- what the law asks -/
theorem ref_some {b : List Int} {f t u : Int} {es : List Int} (hb : ∀ x ∈ b, 0 ≤ x ∧ x < 256) (h : decV b = some (f, t, u, es)) : rFin b = (f, t, u, es, 0) := by
  obtain ⟨rfl, hg, h0, h1⟩ := enc_dec hb h
  exact read_good hg h0 h1

theorem ref_none {b : List Int} (hb : ∀ x ∈ b, 0 ≤ x ∧ x < 256) (h : decV b = none) : rFin b = (0, 0, 0, [], 160) := by
  unfold rFin fin
  split
  · rename_i hc
    have z3 := rdz_bd hb (ra2 b + 3)
    have z2 := rdz_bd hb (ra2 b + 2)
    have z1 := rdz_bd hb (ra2 b + 1)
    have z0 := rdz_bd hb (ra2 b + 0)
    have hu : 0 ≤ rbits b (ra2 b) ∧ rbits b (ra2 b) < 4294967296 := by unfold rbits; omega
    have := dec_enc hc.1 hu.1 hu.2
    rw [hc.2, h] at this
    cases this
  · rfl
end Go.Proofs.Ytfgoangcckiffaa.Pr
