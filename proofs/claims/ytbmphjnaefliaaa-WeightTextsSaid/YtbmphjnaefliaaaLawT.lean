/- This text proves the law WeightTexts as a walk: true whatever the word and the text. -/
import Derived.Test.YtbmphjnaefliaaaRd2
import Derived.Test.YtbmphjnaefliaaaLawC
namespace Go.Proofs.Ytbmphjnaefliaaa.LawT
open Go.RowKit Go.Proofs.YtbmphjnaefliaaaW.PrintWords
open Go.Proofs.Ytbmphjnaefliaaa Go.Proofs.Ytbmphjnaefliaaa.Flt Go.Proofs.Ytbmphjnaefliaaa.Txt Go.Proofs.Ytbmphjnaefliaaa.Awk Go.Proofs.Ytbmphjnaefliaaa.LawA Go.Proofs.Ytbmphjnaefliaaa.Rd
set_option linter.unusedVariables false

theorem rl0_step (K : Nat) (x3 : ByteArray) (n k d m : Nat) (hn : n < 4294967296) (hk : k < 8) (hs : x3.size ≤ 8) (hd : d = n % 16) (hm : m = n / 16) :
    PWeightTexts.brambleref01_Text.l0 (K + 1) x3 n k = PWeightTexts.brambleref01_Text.l0 K (strOfNums [dg d] ++ x3) m (k + 1 : Nat) := by
  subst hd hm
  have e1 : (n : Int).tmod 16 = ((n % 16 : Nat) : Int) := by rw [Int.tmod_eq_emod_of_nonneg (by omega)]; omega
  have e2 : (n : Int).tdiv 16 = ((n / 16 : Nat) : Int) := by rw [Int.tdiv_eq_ediv_of_nonneg (by omega)]; omega
  have e3 : wrap64 ((k : Int) + 1) = ((k + 1 : Nat) : Int) := by rw [w64 (by omega) (by omega)]; omega
  have e4 : wrap64 (((n / 16 : Nat) : Int)) = ((n / 16 : Nat) : Int) := w64 (by omega) (by omega)
  have hlt : n % 16 < 16 := Nat.mod_lt _ (by omega)
  simp only [PWeightTexts.brambleref01_Text.l0]
  rw [if_pos (by omega), e1, e2, e3, e4]
  generalize n % 16 = d at *
  by_cases h : 10 ≤ d
  · rw [if_pos (by omega)]
    simp only [Option.bind_some]
    rw [show wrap64 (wrap64 (97 + (d : Int)) - 10) % 256 = dg d by rw [w64 (n := 97 + (d : Int)) (by omega) (by omega), w64 (by omega) (by omega)]; unfold dg; rw [if_neg (by omega)]; omega]
    rw [if_pos (by rw [strOfNums_size]; simp; omega)]
  · rw [if_neg (by omega)]
    simp only [Option.bind_some]
    rw [show wrap64 (48 + (d : Int)) % 256 = dg d by rw [w64 (n := 48 + (d : Int)) (by omega) (by omega)]; unfold dg; rw [if_pos (by omega)]; omega]
    rw [if_pos (by rw [strOfNums_size]; simp; omega)]

theorem son_app (a b : List Int) : strOfNums a ++ strOfNums b = strOfNums (a ++ b) := by
  apply ByteArray.ext
  rw [ByteArray.data_append]
  unfold strOfNums
  simp

theorem bw_lt (n : Nat) (hn : n < 4294967296) : bitsW n < 4294967296 := by unfold bitsW; split <;> omega

theorem rtext_st (K' K : Nat) (l : List Int) (m k : Nat) (ki kj : Int) (q : Nat) (hK : K' = K + 1) (hki : ki = k) (hkj : kj = (k + 1 : Nat)) (hq : q = m / 16) (h1 : m < 4294967296) (h2 : k < 8) (h3 : l.length ≤ 8) :
    PWeightTexts.brambleref01_Text.l0 K' (strOfNums l) m ki = PWeightTexts.brambleref01_Text.l0 K (strOfNums (dg (m % 16) :: l)) q kj := by
  subst hK hki hkj hq
  exact (rl0_step K (strOfNums l) m k _ _ h1 h2 (by rw [strOfNums_size]; exact h3) rfl rfl).trans (by rw [son_app]; rfl)

theorem rtext_b (b : Nat) (hb : b < 4294967296) : PWeightTexts.brambleref01_Text.l0 9 (strOfNums []) b 0 = some (strOfNums (textL b)) := by
  rw [rtext_st 9 8 [] b 0 0 1 (b / 16) rfl rfl rfl rfl (by omega) (by omega) (by simp)]
  rw [rtext_st 8 7 _ (b / 16) 1 1 2 (b / 256) rfl rfl rfl (by omega) (by omega) (by omega) (by simp)]
  rw [rtext_st 7 6 _ (b / 256) 2 2 3 (b / 4096) rfl rfl rfl (by omega) (by omega) (by omega) (by simp)]
  rw [rtext_st 6 5 _ (b / 4096) 3 3 4 (b / 65536) rfl rfl rfl (by omega) (by omega) (by omega) (by simp)]
  rw [rtext_st 5 4 _ (b / 65536) 4 4 5 (b / 1048576) rfl rfl rfl (by omega) (by omega) (by omega) (by simp)]
  rw [rtext_st 4 3 _ (b / 1048576) 5 5 6 (b / 16777216) rfl rfl rfl (by omega) (by omega) (by omega) (by simp)]
  rw [rtext_st 3 2 _ (b / 16777216) 6 6 7 (b / 268435456) rfl rfl rfl (by omega) (by omega) (by omega) (by simp)]
  rw [rtext_st 2 1 _ (b / 268435456) 7 7 8 (b / 4294967296) rfl rfl rfl (by omega) (by omega) (by omega) (by simp)]
  unfold PWeightTexts.brambleref01_Text.l0 textL
  rw [if_neg (by omega), Nat.div_one]

theorem rtext (n : Nat) (hn : n < 4294967296) : PWeightTexts.brambleref01_Text.f 9 n = some (strOfNums (textL (bitsW n))) := by
  unfold PWeightTexts.brambleref01_Text.f
  rw [rbits]
  have hb := bw_lt n hn
  generalize bitsW n = b at *
  rw [Option.bind_some, w64 (by omega) (by omega)]
  exact rtext_b b hb

theorem bt_son (l : List Int) (k : Nat) (c : Int) (h : l[k]? = some c) (h0 : 0 ≤ c) (h1 : c < 256) : bt (strOfNums l) k = c := by
  obtain ⟨hk, hc⟩ := List.getElem?_eq_some_iff.mp h
  have hs : k < (strOfNums l).size := by rw [strOfNums_size]; exact hk
  unfold bt
  rw [dif_pos (show (k : Int).toNat < _ from hs)]
  have : (strOfNums l)[k]'hs = UInt8.ofNat c.toNat := by
    subst hc
    simp [strOfNums, ByteArray.getElem_eq_getElem_data]
  show ((((strOfNums l)[k]'hs).toNat : Nat) : Int) = c
  rw [this, UInt8.toNat_ofNat']
  omega

theorem dg_r (d : Nat) (h : d < 16) : 0 ≤ dg d ∧ dg d < 256 ∧ hx (dg d) = some d := by
  unfold dg hx
  split
  · exact ⟨by omega, by omega, by rw [if_pos (by omega)]; congr 1; omega⟩
  · exact ⟨by omega, by omega, by rw [if_neg (by omega), if_pos (by omega)]; congr 1; omega⟩

theorem rdS_step (l : List Int) (n k acc d : Nat) (hd : d < 16) (h : l[k]? = some (dg d)) : rdS (strOfNums l) (n + 1) k acc = rdS (strOfNums l) n (k + 1) (acc * 16 + d) := by
  obtain ⟨h0, h1, h2⟩ := dg_r d hd
  have hb := bt_son l k _ h h0 h1
  simp only [rdS]
  rw [hb, h2]

theorem read_text (b : Nat) (hb : b < 4294967296) : rdS (strOfNums (textL b)) 8 0 0 = some b := by
  have m : ∀ x, x % 16 < 16 := fun x => Nat.mod_lt _ (by omega)
  refine (rdS_step _ 7 0 _ _ (m _) rfl).trans ?_
  refine (rdS_step _ 6 1 _ _ (m _) rfl).trans ?_
  refine (rdS_step _ 5 2 _ _ (m _) rfl).trans ?_
  refine (rdS_step _ 4 3 _ _ (m _) rfl).trans ?_
  refine (rdS_step _ 3 4 _ _ (m _) rfl).trans ?_
  refine (rdS_step _ 2 5 _ _ (m _) rfl).trans ?_
  refine (rdS_step _ 1 6 _ _ (m _) rfl).trans ?_
  refine (rdS_step _ 0 7 _ _ (m _) rfl).trans ?_
  show some _ = some b
  congr 1
  omega

/-- what is read lies in the words, and is its own bits -/
theorem readW_ok (s : ByteArray) : (readW s).1 < 4294967296 ∧ bitsW (readW s).1 = (readW s).1 := by
  unfold readW
  split
  · split
    · exact ⟨by simp, rfl⟩
    · rename_i b hb
      have := rdS_lt s 8 0 0 b hb (by simp)
      have := bitsW_adm b (by simpa using this)
      exact ⟨this.2, this.1⟩
  · exact ⟨by simp, rfl⟩

theorem back (n : Nat) (hn : n < 4294967296) (h : admC n = 0) : readW (strOfNums (textL (bitsW (admW n)))) = (admW n, 0) := by
  obtain ⟨h1, h2⟩ := bitsW_adm n hn
  rw [h1]
  unfold readW
  rw [if_pos (by rw [strOfNums_size]; rfl), read_text _ h2]
  show (admW (admW n), admC (admW n)) = _
  have : admW (admW n) = admW n ∧ admC (admW n) = 0 := by
    unfold admC at h
    by_cases h3 : n = 2147483648
    · subst h3; exact ⟨rfl, rfl⟩
    · rw [if_neg h3] at h
      by_cases h4 : 2139095040 ≤ n
      · rw [if_pos h4] at h; cases h
      · have e : admW n = n := by unfold admW; rw [if_neg (by omega)]
        rw [e, e]
        exact ⟨rfl, by unfold admC; rw [if_neg h3, if_neg h4]⟩
  rw [this.1, this.2]

set_option maxHeartbeats 1000000 in
theorem texts_calls (n : Nat) (hn : n < 4294967296) (s : ByteArray) (w : World) : Calls Try.prog 9 #[.int .u32 n, .string s] w fun e w' => e = .returned (.bool true) ∧ Below w.heap.size w w' := by
  have HT := Aside0.mk (rtext n hn)
  have HR := Aside0.mk (rread s)
  obtain ⟨h1, h2⟩ := readW_ok s
  have HB := Aside0.mk h2
  obtain ⟨h3, h4⟩ := bitsW_adm n hn
  have H3 := Aside0.mk h3
  clear h2 h3
  have hrd := read_calls s
  have htx := text_calls n hn
  generalize readW s = rs at *
  obtain ⟨rw, rc⟩ := rs
  simp only at h1 HB HR hrd
  generalize strOfNums (textL (bitsW n)) = T at *
  have hq1 : (rc != rc) = false := by simp
  have r24 := run24 (admW n)
  by_cases h0 : admC n = 0
  · have hK := back n hn h0
    have hT2 := text_calls (admW n) h4
    generalize strOfNums (textL (bitsW (admW n))) = T2 at *
    have hrd2 := read_calls T2
    rw [hK] at hrd2
    have hadm := admit_calls n hn
    rw [h0] at hadm
    clear hK h0
    generalize admW n = aw at *
    go_enter Try.func9, Try.ntmps9
    go_wp2_with (first
      | (go_at_call 10; refine (awake_calls _).mono ?_; rintro e w1 ⟨rfl, hb1⟩; have HB1 := Aside0.mk hb1; clear hb1)
      | (go_at_call 26; with_reducible refine (htx w1).mono ?_; rintro e w2 ⟨rfl, hb⟩; have HB2 := Aside0.mk (below_step HB1.out hb); clear hb)
      | (go_at_call 26; with_reducible refine (hT2 w4).mono ?_; rintro e w5 ⟨rfl, hb⟩; have HB5 := Aside0.mk (below_step HB4.out hb); clear hb)
      | (go_at_call 14; refine (float_calls n _).mono ?_; rintro e w' ⟨rfl, rfl⟩)
      | (go_at_call 27; refine (PWeightTexts.brambleref01_Text.calls 9 n _ w2 HT.out).mono ?_; rintro e w3 ⟨rfl, hb⟩; have HB3 := Aside0.mk (below_step HB2.out hb); clear hb)
      | (go_at_call 28; with_reducible refine (hrd w3).mono ?_; rintro e w' ⟨rfl, rfl⟩)
      | (go_at_call 28; with_reducible refine (hrd2 w5).mono ?_; rintro e w' ⟨rfl, rfl⟩)
      | (go_at_call 29; refine (PWeightTexts.brambleref01_Read.calls 17 s _ _ w3 HR.out).mono ?_; rintro e w4 ⟨rfl, hd⟩; have HB4 := Aside0.mk (below_step HB3.out hd.below); clear hd)
      | (go_at_call 13; with_reducible refine (is_yes rw h1 HB.out w4).mono ?_; rintro e w' ⟨rfl, rfl⟩)
      | (go_at_call 13; with_reducible refine (is_yes aw h4 H3.out w5).mono ?_; rintro e w' ⟨rfl, rfl⟩)
      | (go_at_call 11; refine (hadm w4).mono ?_; rintro e w' ⟨rfl, rfl⟩))
    go_ret
    exact ⟨by first | rfl | (simp; done), HB5.out⟩
  · have hadm := admit_calls n hn
    have hq3 : (admC n != 0) = true := by simpa using h0
    generalize admC n = ac at *
    generalize admW n = aw at *
    clear h0
    go_enter Try.func9, Try.ntmps9
    go_wp2_with (first
      | (go_at_call 10; refine (awake_calls _).mono ?_; rintro e w1 ⟨rfl, hb1⟩; have HB1 := Aside0.mk hb1; clear hb1)
      | (go_at_call 26; with_reducible refine (htx w1).mono ?_; rintro e w2 ⟨rfl, hb⟩; have HB2 := Aside0.mk (below_step HB1.out hb); clear hb)
      | (go_at_call 14; refine (float_calls n _).mono ?_; rintro e w' ⟨rfl, rfl⟩)
      | (go_at_call 27; refine (PWeightTexts.brambleref01_Text.calls 9 n _ w2 HT.out).mono ?_; rintro e w3 ⟨rfl, hb⟩; have HB3 := Aside0.mk (below_step HB2.out hb); clear hb)
      | (go_at_call 28; with_reducible refine (hrd w3).mono ?_; rintro e w' ⟨rfl, rfl⟩)
      | (go_at_call 29; refine (PWeightTexts.brambleref01_Read.calls 17 s _ _ w3 HR.out).mono ?_; rintro e w4 ⟨rfl, hd⟩; have HB4 := Aside0.mk (below_step HB3.out hd.below); clear hd)
      | (go_at_call 13; with_reducible refine (is_yes rw h1 HB.out w4).mono ?_; rintro e w' ⟨rfl, rfl⟩)
      | (go_at_call 11; refine (hadm w4).mono ?_; rintro e w' ⟨rfl, rfl⟩))
    go_ret
    exact ⟨by first | rfl | (simp; done), HB4.out⟩
theorem texts (a : Int) (s : ByteArray) (w : World) (h : (Lit.int .u32 a).wf = true) (_ : s.size ≤ 140737488351232) : Calls Try.prog 9 #[.int .u32 a, .string s] w fun e w' => e = .returned (.bool true) ∧ Below w.heap.size w w' := by
  obtain ⟨n, rfl, hn⟩ := LawC.u32_nat h
  exact texts_calls n hn s w
end Go.Proofs.Ytbmphjnaefliaaa.LawT
