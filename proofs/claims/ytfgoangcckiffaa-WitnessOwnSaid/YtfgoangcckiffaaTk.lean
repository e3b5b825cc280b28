/- This text proves what the reader of a witness's bytes reads: a byte, a number, or a panic that leaves all as it was. -/
import Derived.Test.YtfgoangcckiffaaPWitnessEncodesx
import Derived.Deep.DeepMust
import Derived.WalkSmall
namespace Go.Proofs.Ytfgoangcckiffaa.Tk
open Go.RowKit Go.Proofs.YtfgoangcckiffaaW.PrintWords Go.Proofs.YtfgoangcckiffaaW.PrintLast Go.Proofs.YtfgoangcckiffaaW.PrintMore
set_option linter.unusedVariables false

/-- what a reader gives up by -/
abbrev fault : List PanicEntry := [{ v := .iface 56 (.agg #[]), recovered := false }]

/-- a reader in block g, with the bytes l still to be read -/
def Rdr (w0 w : World) (g : Nat) (l : List Int) : Prop :=
  ∃ A c, w.heap[g]? = some (.cells #[.slice A l.length c] 48 (0, 0)) ∧ l.length ≤ c ∧ Kd.C (Kd.int .u8) w0 A l.length l ∧ Below w0.heap.size w0 w ∧ w0.heap.size ≤ g

/-- behind a call: the reader stands further on, nothing else is turned -/
def Went (w0 w w' : World) (g : Nat) (l : List Int) : Prop := Rdr w0 w' g l ∧ KeepBut w w' g none

theorem went_refl {w0 w : World} {g : Nat} {l : List Int} (h : Rdr w0 w g l) : Went w0 w w g l := ⟨h, KeepBut.refl _ _ _⟩
theorem went_set {w0 w : World} {g : Nat} {l r : List Int} {A : Option Addr} {c : Nat} (h : Rdr w0 w g l) (hc : r.length ≤ c) (hr : Kd.C (Kd.int .u8) w0 A r.length r) : Went w0 w (w.setCell ⟨g, 0, none⟩ (.slice A r.length c)) g r := by
  obtain ⟨A0, c0, h1, h2, h3, h5, h6⟩ := h
  exact ⟨⟨A, c, blk_put h1 0 _ rfl, hc, hr, h5.trans ((Below.refl _ _).setCell h6 _), h6⟩, KeepBut.set_ (KeepBut.refl _ _ _) _ _⟩
/-- a reader stays where blocks of old do -/
theorem rdr_keep {w0 w w' : World} {g : Nat} {l : List Int} (h : Rdr w0 w g l) (hb : Below w.heap.size w w') : Rdr w0 w' g l := by
  obtain ⟨A0, c0, h1, h2, h3, h5, h6⟩ := h
  exact ⟨A0, c0, blk_below h1 hb, h2, h3, h5.trans (hb.mono h5.size), h6⟩
theorem went_keep {w0 w w' : World} {g : Nat} {l : List Int} (h : Rdr w0 w g l) (hb : Below w.heap.size w w') : Went w0 w w' g l := ⟨rdr_keep h hb, KeepBut.of_below hb _ _⟩
theorem went_trans {w0 w w1 w2 : World} {g : Nat} {l l1 : List Int} (h : Went w0 w w1 g l1) (k : Went w0 w1 w2 g l) : Went w0 w w2 g l := ⟨k.1, h.2.trans k.2 (.inl rfl)⟩

theorem byte_none {w0 w : World} {g : Nat} (h : Rdr w0 w g []) :
    Calls Try.prog 19 #[.pointer (some ⟨g, 0, none⟩)] w fun e w' => e = .panicked fault ∧ Went w0 w w' g [] := by
  have HH := Aside0.mk h
  obtain ⟨A, c, hq, _⟩ := h
  simp only [List.length_nil] at hq
  have hp : w.cell? ⟨g, 0, none⟩ = some (.slice A 0 c) := (blk_cell hq 0).trans rfl
  go_enter Try.func19, Try.ntmps19
  go_wp2
  exact ⟨rfl, rfl, went_refl HH.out⟩

theorem byte_some {w0 w : World} {g : Nat} {x : Int} {r : List Int} (h : Rdr w0 w g (x :: r)) :
    Calls Try.prog 19 #[.pointer (some ⟨g, 0, none⟩)] w fun e w' => e = .returned (.int .u8 x) ∧ Went w0 w w' g r := by
  have HH := Aside0.mk h
  obtain ⟨A, c, hq, hc, hr, hb, hf⟩ := h
  have hp : w.cell? ⟨g, 0, none⟩ = some (.slice A (x :: r).length c) := (blk_cell hq 0).trans rfl
  have hz := blk_frozen hq 0
  have hd := Kd.C_drop (m := 1) hr (by simp) hc
  have hr1 := Kd.C_below hr hb
  obtain ⟨ad, rfl, h0⟩ := Kd.at_int hr1 (0 : Int) (by omega) (by simp)
  replace h0 : w.cell? ad = some (.int .u8 x) := by rw [show rd (x :: r) 0 = x from by simp [rd]] at h0; exact h0
  have HD := Aside0.mk hd
  clear hd hr hr1 hb
  simp only [List.length_cons] at hp hc
  go_enter Try.func19, Try.ntmps19
  go_wp2
  · rename_i h1
    go_ret
    refine ⟨rfl, went_set HH.out (by omega) ?_⟩
    have := HD.out
    rw [if_pos (by omega)] at this
    exact this
  · rename_i h1
    go_ret
    refine ⟨rfl, went_set HH.out (by omega) ?_⟩
    have := HD.out
    rw [if_neg (by omega)] at this
    exact this

theorem and127 (x : Int) (h0 : 0 ≤ x) (h1 : x < 256) : Go.bits .and .u8 x 127 = x % 128 := by
  have : ∀ n : Fin 256, Go.bits .and .u8 ((n : Nat) : Int) 127 = ((n : Nat) : Int) % 128 := by decide +kernel
  have h := this ⟨x.toNat, by omega⟩
  simpa [Int.toNat_of_nonneg h0] using h

def numG : Nat → Nat → Int → List Int → Option (Int × Nat)
  | 0, _, _, _ => none
  | _ + 1, _, _, [] => none
  | f + 1, i, acc, x :: r => if x < 128 then (if i = 0 ∨ 0 < x then some (acc + x * 128 ^ i, i + 1) else none) else numG f (i + 1) (acc + (x - 128) * 128 ^ i) r
def numV (l : List Int) : Option (Int × Nat) := numG 5 0 0 l

theorem p128 (k : Nat) : 128 ^ k = 2 ^ (7 * k) := by rw [show (128 : Nat) = 2 ^ 7 by decide, ← Nat.pow_mul]

theorem or_k (k acc : Nat) (y : Int) (hk : k < 5) (ha : acc < 128 ^ k) (h0 : 0 ≤ y) (h1 : y < 128) : Go.bits .or .i64 (acc : Int) (wrap64 (y * 2 ^ (7 * k))) = acc + y * 128 ^ k := by
  obtain ⟨Y, rfl⟩ : ∃ n : Nat, y = n := ⟨y.toNat, by omega⟩
  have hY : Y < 128 := by omega
  have hp : 128 ^ k ≤ 128 ^ 4 := Nat.pow_le_pow_right (by decide) (by omega)
  have hm : Y * 128 ^ k < 128 * 128 ^ 4 := by
    have h3 : Y * 128 ^ k ≤ Y * 128 ^ 4 := Nat.mul_le_mul_left _ hp
    have h4 : Y * 128 ^ 4 < 128 * 128 ^ 4 := Nat.mul_lt_mul_of_pos_right hY (by decide)
    omega
  have hm' : Y * 128 ^ k < 34359738368 := by simpa using hm
  have ha' : acc < 268435456 := Nat.lt_of_lt_of_le ha (by simpa using hp)
  have hc : ((Y : Int) * 2 ^ (7 * k)) = ((Y * 128 ^ k : Nat) : Int) := by rw [p128]; push_cast; rfl
  have hc' : ((Y : Int) * 128 ^ k) = ((Y * 128 ^ k : Nat) : Int) := by push_cast; rfl
  rw [hc, hc']
  have hd : (128 ^ k ∣ Y * 128 ^ k) := ⟨Y, Nat.mul_comm _ _⟩
  generalize Y * 128 ^ k = Z at *
  have hw : wrap64 (Z : Int) = Z := by unfold wrap64; omega
  rw [hw, (bits_nat .i64 62 (by decide) (fun n h h' => by rw [IntKind.wrap_i64]; omega) acc Z (by omega) (by omega)).2]
  obtain ⟨q, hq⟩ := hd
  have h5 : 2 ^ (7 * k) * q + acc = 2 ^ (7 * k) * q ||| acc := Nat.two_pow_add_eq_or_of_lt (by rw [← p128]; exact ha) q
  rw [hq, p128, Nat.or_comm, ← h5]
  omega

/-- what a number's reading answers -/
def TakeQ (w : World) (A : Option Addr) (c : Nat) (l : List Int) (e : Ending) : Prop :=
  ∃ n v ok, e = .returned (.tuple #[.int .i64 n, v, .bool ok]) ∧
      (∀ m k, numV l = some (m, k) → ok = true ∧ n = m ∧ k ≤ l.length ∧ ∃ A', v = .slice A' (l.drop k).length (c - k) ∧ Kd.C (Kd.int .u8) w A' (l.drop k).length (l.drop k)) ∧ (numV l = none → ok = false)

theorem take_no {w : World} {A : Option Addr} {c : Nat} {l : List Int} (n : Int) (v : Value) (h : numV l = none) : TakeQ w A c l (.returned (.tuple #[.int .i64 n, v, .bool false])) :=
  ⟨n, v, false, rfl, fun m k hk => by rw [h] at hk; simp at hk, fun _ => rfl⟩
theorem take_yes {w : World} {A A' : Option Addr} {c k n' c' : Nat} {l : List Int} {n : Int} {ok : Bool} (h : numV l = some (n, k)) (hok : ok = true) (hk : k ≤ l.length) (hn : n' = l.length - k) (hc : c' = c - k) (hr : Kd.C (Kd.int .u8) w A' (l.drop k).length (l.drop k)) :
    TakeQ w A c l (.returned (.tuple #[.int .i64 n, .slice A' n' c', .bool ok])) := by
  subst hok; subst hn; subst hc
  refine ⟨n, _, true, rfl, fun m k' hk => ?_, fun h' => by rw [h] at h'; simp at h'⟩
  rw [h] at hk
  simp only [Option.some.injEq, Prod.mk.injEq] at hk
  obtain ⟨rfl, rfl⟩ := hk
  exact ⟨rfl, rfl, by assumption, A', by simp, hr⟩

theorem take_end {w : World} {A A' : Option Addr} {c k n' c' : Nat} {l : List Int} {n : Int} {ok : Bool} (h : numV l = if ok = true then some (n, k) else none) (hk : k ≤ l.length) (hn : n' = l.length - k) (hc : c' = c - k) (hr : Kd.C (Kd.int .u8) w A' (l.drop k).length (l.drop k)) :
    TakeQ w A c l (.returned (.tuple #[.int .i64 n, .slice A' n' c', .bool ok])) := by
  cases ok
  · exact take_no _ _ (by simpa using h)
  · exact take_yes (by simpa using h) rfl hk hn hc hr

theorem numG_some {f i : Nat} {acc x : Int} {r : List Int} (hs : x < 128) (h : i = 0 ∨ 0 < x) : numG (f + 1) i acc (x :: r) = some (acc + x * 128 ^ i, i + 1) := by simp [numG, hs, h]
theorem numG_none {f i : Nat} {acc x : Int} {r : List Int} (hs : x < 128) (h : ¬ (i = 0 ∨ 0 < x)) : numG (f + 1) i acc (x :: r) = none := by simp [numG, hs]; omega
theorem numG_on {f i : Nat} {acc x : Int} {r : List Int} (hs : ¬ x < 128) : numG (f + 1) i acc (x :: r) = numG f (i + 1) (acc + (x - 128) * 128 ^ i) r := by simp [numG, hs]

theorem take_calls (A : Option Addr) (c : Nat) (l : List Int) (w0 w : World) (hr : Kd.C (Kd.int .u8) w0 A l.length l) (hB : Below w0.heap.size w0 w) (hc : l.length ≤ c) (hb : ∀ x ∈ l, 0 ≤ x ∧ x < 256) :
    Calls Try.prog 24 #[.slice A l.length c] w fun e w' => Below w.heap.size w w' ∧ TakeQ w0 A c l e := by
  have hlen := hr.2.1
  have HR := Aside0.mk (Kd.C_below hr hB)
  have HR0 := Aside0.mk hr
  clear hB
  have HB := Aside0.mk hb
  clear hr hb
  go_enter Try.func24, Try.ntmps24
  go_wp2
  go_loop [5, 6] (fun v i => ∃ k acc : Nat, k ≤ 5 ∧ k ≤ l.length ∧ v = .int .i64 acc ∧ i = .int .i64 k ∧ Aside0 (acc < 128 ^ k) ∧ Aside0 (numV l = numG (5 - k) k acc (l.drop k))) (fun _ i => 5 - (intOf i).toNat)
  case atStart => exact ⟨0, 0, by omega, Nat.zero_le _, rfl, rfl, ⟨by decide⟩, ⟨rfl⟩⟩
  case round =>
    obtain ⟨k, acc, hk5, hk, rfl, rfl, H1, H2⟩ := hrel
    by_cases hlt : k < l.length
    · obtain ⟨ad, rfl, hcx⟩ := Kd.at_int HR.out (k : Int) (by omega) (by omega)
      rw [show rd l k = l[k] from by simp [rd, hlt], Int.toNat_natCast] at hcx
      by_cases h5 : k < 5
      · have hx0 := HB.out l[k] (List.getElem_mem hlt)
        have HD : Aside0 (l.drop k = l[k] :: l.drop (k + 1)) := ⟨List.drop_eq_getElem_cons hlt⟩
        generalize l[k] = x at hcx hx0 HD
        have ha := and127 x hx0.1 hx0.2
        have ho := or_k k acc (x % 128) h5 H1.out (by omega) (by omega)
        by_cases hs : x < 128
        · have hn1 : (0 : Int) ≤ (k : Int) + 1 := by omega
          have hn2 : (k : Int) + 1 ≤ (l.length : Int) := by omega
          have HS : Aside0 (∀ ok : Bool, (k = 0 ∨ 0 < x ↔ ok = true) → numV l = if ok = true then some ((acc : Int) + x % 128 * 128 ^ k, k + 1) else none) := ⟨by
            intro ok hok
            rw [H2.out, HD.out, show 5 - k = (5 - (k + 1)) + 1 by omega, show x % 128 = x by omega]
            by_cases h : k = 0 ∨ 0 < x
            · rw [numG_some hs h, if_pos (hok.mp h)]
            · rw [numG_none hs h, if_neg (fun h' => h (hok.mpr h'))]⟩
          generalize (acc : Int) + x % 128 * 128 ^ k = y at ho HS
          have HC := Aside0.mk (Kd.C_drop (m := k + 1) HR0.out (by omega) hc)
          by_cases hk0 : k = 0
          · have hk1 : ((k : Int) == 0) = true := by simp [hk0]
            have HE : Aside0 (numV l = some (y, k + 1)) := ⟨by simpa using HS.out true (by simp [hk0])⟩
            clear hk0 HS
            go_wp2
            go_region
            go_wp2
            · rename_i hcc
              go_ret3
              exact ⟨below_drew (Below.refl _ _), take_yes HE.out rfl (by omega) (by omega) (by omega) (by have := HC.out; rw [if_pos (by omega)] at this; exact this)⟩
            · rename_i hcc
              go_ret3
              exact ⟨below_drew (Below.refl _ _), take_yes HE.out rfl (by omega) (by omega) (by omega) (by have := HC.out; rw [if_neg (by omega)] at this; simp only [show (Kd.int IntKind.u8).sz = 1 from rfl, Nat.mul_one] at this; exact this)⟩
          · have hk1 : ((k : Int) == 0) = false := by simp; omega
            have HE := Aside0.mk (HS.out (decide (0 < x)) (by simp [hk0]))
            clear hk0 HS
            go_wp2
            go_region
            go_wp2
            · rename_i hcc
              go_ret3
              exact ⟨below_drew (Below.refl _ _), take_end HE.out (by omega) (by omega) (by omega) (by have := HC.out; rw [if_pos (by omega)] at this; exact this)⟩
            · rename_i hcc
              go_ret3
              exact ⟨below_drew (Below.refl _ _), take_end HE.out (by omega) (by omega) (by omega) (by have := HC.out; rw [if_neg (by omega)] at this; simp only [show (Kd.int IntKind.u8).sz = 1 from rfl, Nat.mul_one] at this; exact this)⟩
        · have HA : Aside0 (((acc : Int) + x % 128 * 128 ^ k) = ((acc + (x - 128).toNat * 128 ^ k : Nat) : Int)) := ⟨by
            have h : ((x - 128).toNat : Int) = x % 128 := by omega
            push_cast; rw [h]⟩
          have HA2 : Aside0 (acc + (x - 128).toNat * 128 ^ k < 128 ^ (k + 1)) := ⟨by
            have h1 := H1.out
            have h2 : (x - 128).toNat * 128 ^ k ≤ 127 * 128 ^ k := Nat.mul_le_mul_right _ (by omega)
            rw [Nat.pow_succ]; omega⟩
          have HA3 : Aside0 (numV l = numG (5 - (k + 1)) (k + 1) ((acc + (x - 128).toNat * 128 ^ k : Nat) : Int) (l.drop (k + 1))) := ⟨by
            have h : ((x - 128).toNat : Int) = x - 128 := by omega
            rw [H2.out, HD.out, show 5 - k = (5 - (k + 1)) + 1 by omega, numG_on hs]
            push_cast; rw [h]⟩
          rw [HA.out] at ho
          generalize acc + (x - 128).toNat * 128 ^ k = acc' at ho HA2 HA3
          go_wp2
          refine ⟨⟨k + 1, acc', by omega, by omega, rfl, by go_num, HA2, HA3⟩, ?_⟩
          simp [intOf]; omega
      · have HN : Aside0 (numV l = none) := ⟨by rw [H2.out, show 5 - k = 0 by omega]; rfl⟩
        go_wp2
        go_ret3
        exact ⟨Below.refl _ _, take_no _ _ HN.out⟩
    · have HN : Aside0 (numV l = none) := ⟨by
        rw [H2.out, List.drop_eq_nil_of_le (by omega)]
        cases h : 5 - k <;> rfl⟩
      go_wp2
      go_ret3
      exact ⟨Below.refl _ _, take_no _ _ HN.out⟩

theorem number_none {w0 w : World} {g : Nat} {l : List Int} (h : Rdr w0 w g l) (hb : ∀ x ∈ l, 0 ≤ x ∧ x < 256) (hn : numV l = none) :
    Calls Try.prog 20 #[.pointer (some ⟨g, 0, none⟩)] w fun e w' => e = .panicked fault ∧ Went w0 w w' g l := by
  have HH := Aside0.mk h
  have HN := Aside0.mk hn
  obtain ⟨A, c, hq, hc, hr, hB, hf⟩ := h
  have hp : w.cell? ⟨g, 0, none⟩ = some (.slice A l.length c) := (blk_cell hq 0).trans rfl
  have hz := blk_frozen hq 0
  have HT := Aside0.mk (take_calls A c l w0 w hr hB hc hb)
  clear hn hr hB hb
  go_enter Try.func20, Try.ntmps20
  go_wp2_with (go_at_call 24; refine HT.out.mono ?_; rintro e w1 ⟨hb1, n, v, ok, rfl, _, hq⟩; obtain rfl := hq HN.out; have HB1 := Aside0.mk hb1; clear hb1 hq)
  exact ⟨rfl, rfl, went_keep HH.out HB1.out⟩

/-- what a number's reading hands the reader -/
theorem take_went {w0 w w1 : World} {g : Nat} {l : List Int} {k c : Nat} {A' : Option Addr} (h : Rdr w0 w g l) (hb1 : Below w.heap.size w w1) (hl : l.length ≤ c) (hr : Kd.C (Kd.int .u8) w0 A' (l.drop k).length (l.drop k)) : Went w0 w (w1.setCell ⟨g, 0, none⟩ (.slice A' (l.length - k) (c - k))) g (l.drop k) := by
  rw [← List.length_drop]
  exact went_trans (went_keep h hb1) (went_set (rdr_keep h hb1) (by simp; omega) hr)

theorem number_some {w0 w : World} {g : Nat} {l : List Int} {m : Int} {k : Nat} (h : Rdr w0 w g l) (hb : ∀ x ∈ l, 0 ≤ x ∧ x < 256) (hn : numV l = some (m, k)) :
    Calls Try.prog 20 #[.pointer (some ⟨g, 0, none⟩)] w fun e w' => e = .returned (.int .i64 m) ∧ Went w0 w w' g (l.drop k) := by
  have HH := Aside0.mk h
  have HN := Aside0.mk hn
  obtain ⟨A, c, hq, hc, hr, hB, hf⟩ := h
  have hp : w.cell? ⟨g, 0, none⟩ = some (.slice A l.length c) := (blk_cell hq 0).trans rfl
  have hz := blk_frozen hq 0
  have HT := Aside0.mk (take_calls A c l w0 w hr hB hc hb)
  have hlt := Aside0.mk (block_lt_of_cell hp)
  clear hn hr hB hb
  go_enter Try.func20, Try.ntmps20
  go_wp2_with (go_at_call 24; refine HT.out.mono ?_; rintro e w1 ⟨hb1, n, v, ok, rfl, hq, _⟩; obtain ⟨rfl, rfl, hkl, A', rfl, hr'⟩ := hq _ _ HN.out; have HB1 := Aside0.mk hb1; have HR := Aside0.mk hr'; have hp1 := (hb1.cell hlt.out).trans hp; have hz1 := (hb1.frozen hlt.out).trans hz; clear hb1 hq hr')
  have HW := Aside0.mk (take_went HH.out HB1.out hc HR.out)
  go_ret
  exact ⟨rfl, HW.out⟩
end Go.Proofs.Ytfgoangcckiffaa.Tk
