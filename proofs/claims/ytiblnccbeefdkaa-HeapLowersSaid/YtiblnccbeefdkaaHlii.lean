/- This text walks the heap's functions over keys and ranks of one kind (ii): printed by gen.py. -/
import Derived.Test.YtiblnccbeefdkaaHw
import Derived.Test.YtiblnccbeefdkaaHdii
namespace Go.Proofs.Ytiblnccbeefdkaa.Hii
open Go.RowKit Go.Proofs.YtiblnccbeefdkaaW.PrintWords Go.Proofs.Ytiblnccbeefdkaa.Mp Go.Proofs.Ytiblnccbeefdkaa.Hp
set_option linter.unusedVariables false
set_option linter.unusedSimpArgs false
theorem put_rank {w : World} {base hb pb g cap : Nat} {lv : Value} {L : List (It Int Int)} {c : Int} (R : Rep F w base hb pb lv (.slice (some ⟨g, 0, none⟩) L.length cap) L c) {i : Nat} {x : It Int Int} (hx : L[i]? = some x) (p : Int) {W : World} (hW : (w.setCell ⟨g, i * 3 + 1, none⟩ (.int .i64 p)) = W) :
    Rep F W base hb pb lv (.slice (some ⟨g, 0, none⟩) L.length cap) (L.set i ⟨x.key, p, x.came⟩) c ∧ Kp w W (Mine hb pb (.slice (some ⟨g, 0, none⟩) L.length cap)) := by
  have hi := (List.getElem?_eq_some_iff.1 hx).1
  have kp : Kp w W (fun k => k = g) := by
    rw [← hW]
    refine Kp.setCell ?_ (by left; rfl) _
    exact Kp.refl w _
  obtain ⟨cur, hg, _⟩ := own_blk? R.own
  have hgh : g ≠ hb := blk_ne hg R.head (by decide)
  have hpg : pb ≠ g := R.map.ne_cells hg
  have hkeys : keys (L.set i ⟨x.key, p, x.came⟩) = keys L := by
    unfold keys
    rw [List.map_set]
    apply List.ext_getElem?
    intro m
    by_cases hm : i = m
    · subst hm
      rw [List.getElem?_set_self (by simpa using hi), List.getElem?_map, hx]; rfl
    · rw [List.getElem?_set_ne hm]
  refine ⟨⟨blk_kp R.head kp (fun e => hgh e.symm), ?_, (R.map.kept kp hpg).congr (fun k => ?_), by rw [hkeys]; exact R.nodup, R.hbase, R.pbase⟩, kp.mono (fun k hk => .inr (.inr (by rw [hk]; rfl)))⟩
  · rw [List.length_set, ← hW]
    have h1 := own_set R.own (i * 3 + 1) (.int .i64 p)
    have hl : (flat F L).length = L.length * 3 := flat_len F L
    have hlt : i * 3 + 3 ≤ L.length * 3 := by have := Nat.mul_le_mul_right 3 (show i + 1 ≤ L.length from hi); omega
    have e : ((flat F L).set (i * 3 + 1) (.int .i64 p)) = flat F (L.set i ⟨x.key, p, x.came⟩) := by
      refine flat_set F L i _ hi _ (by simp only [List.length_set]) ?_ ?_
      · intro k hk
        have hk : k < 3 := hk
        show _[i * 3 + k]? = _
        rcases (show k = 0 ∨ k = 1 ∨ k = 2 by omega) with rfl | rfl | rfl
        · rw [List.getElem?_set_ne (by omega)]
          exact (flat_get F L i 0 x hx (by decide)).trans rfl
        · rw [List.getElem?_set_self (by omega)]
          rfl
        · rw [List.getElem?_set_ne (by omega)]
          exact (flat_get F L i 2 x hx (by decide)).trans rfl
      · intro m hm
        have hm : m < i * 3 ∨ (i + 1) * 3 ≤ m := hm
        rw [Nat.add_mul] at hm
        rw [List.getElem?_set_ne (by omega)]
    rw [e] at h1
    exact h1
  · congr 1
    unfold place
    have hp : ∀ (M N : List (It Int Int)), keys M = keys N → List.findIdx? (fun x => decide (x.key = k)) M = List.findIdx? (fun x => decide (x.key = k)) N := by
      intro M
      induction M with
      | nil => intro N h; cases N with | nil => rfl | cons _ _ => cases h
      | cons a M ih =>
        intro N h
        cases N with
        | nil => cases h
        | cons b N =>
          simp only [keys, List.map_cons, List.cons.injEq] at h
          rw [List.findIdx?_cons, List.findIdx?_cons, h.1, ih N h.2]
    exact hp _ _ hkeys.symm
set_option maxHeartbeats 2000000 in
set_option maxRecDepth 100000 in
theorem lower_in {A : Int → Int → Bool → Prop} {I : World → Prop} {S : Nat → Prop} {base : Nat} {lv : Value} (L : LessOk Try.prog (Value.int .i64) A lv I S base) {hb pb : Nat} {sv : Value} {L0 : List (It Int Int)} {c : Int} {w : World} (R : Rep F w base hb pb lv sv L0 c) (hI : I w) {i : Nat} {x : It Int Int} (hx : L0[i]? = some x) (p : Int) (hn : L0.length ≤ 1152921504606846976) :
    Calls Try.prog 14 #[.pointer (some ⟨hb, 0, none⟩), .int .i64 x.key, .int .i64 p] w fun e w' => ∃ r, e = .returned (.bool r) ∧ A p x.rank r ∧ I w' ∧ Kp w w' (fun k => Mine hb pb sv k ∨ S k) ∧ ((r = false ∧ Rep F w' base hb pb lv sv L0 c) ∨ (r = true ∧ ∃ L1, UpR A (L0.set i ⟨x.key, p, x.came⟩) i L1 ∧ L1.Perm (L0.set i ⟨x.key, p, x.came⟩) ∧ Rep F w' base hb pb lv sv L1 c)) := by
  have hlook : (Instr.lookup 55 (.map (some pb)) (.int .i64 x.key) true).run Try.prog w = .ok (.tuple #[.int .i64 (i : Int), .bool true]) w := by
    have h := R.map.look F.KV Try.underlying55 Try.underlying3 (z := .int .i64 0) (by kernel_rfl) x.key
    rw [(place_iff R.nodup x.key i).2 ⟨x, hx, rfl⟩] at h
    exact h
  have hi := (List.getElem?_eq_some_iff.1 hx).1
  obtain ⟨g, cap, rfl⟩ := R.slice (by omega)
  obtain ⟨F0, fn, cp, rfl, hf, hn1, hbd, hcalls⟩ := L.calls
  have c0 : w.cell? ⟨hb, 0, none⟩ = some (.func (.func F0) #[] cp) := (blk_cell R.head 0).trans rfl
  have c1 : w.cell? ⟨hb, 1, none⟩ = some (.slice (some ⟨g, 0, none⟩) L0.length cap) := (blk_cell R.head 1).trans rfl
  have c2 : w.cell? ⟨hb, 2, none⟩ = some (.map (some pb)) := (blk_cell R.head 2).trans rfl
  have i1 : w.cell? ⟨g, i * 3 + 1, none⟩ = some (.int .i64 x.rank) := own_cell R.own _ _ ((flat_get F L0 i 1 x hx (by decide)).trans rfl)
  have HX := Aside0.mk hx
  have HR := Aside0.mk R
  have HI := Aside0.mk hI
  have HC := Aside0.mk hcalls
  have HF := Aside0.mk hf
  have HN := Aside0.mk hn1
  have HD := Aside0.mk hbd
  have HL := Aside0.mk L
  have HM := Aside0.mk hn
  clear R hI hcalls hf hn1 hbd L hx hn
  go_enter Try.func14, Try.ntmps14
  go_wp2
  refine wp_region_still_tail 16 (by kernel_rfl) (by kernel_rfl) ?_
  change wpStill _ _ w.drew (fun a' => wpList _ _ _ _ a' w.drew) _ _
  have HIU : Aside0 (I w.drew) := ⟨HL.out.stable w w.drew HI.out (fun _ _ => rfl)⟩
  have HRU : Aside0 (Rep F w.drew base hb pb (.func (.func F0) #[] cp) (.slice (some ⟨g, 0, none⟩) L0.length cap) L0 c) := ⟨HR.out.kept ((Kp.refl w (fun _ => False)).drew) (fun _ h => h.elim)⟩
  have HKU : Aside0 (Kp w w.drew S) := ⟨(Kp.refl w S).drew⟩
  have c0' : w.drew.cell? ⟨hb, 0, none⟩ = some (.func (.func F0) #[] cp) := c0
  have c1' : w.drew.cell? ⟨hb, 1, none⟩ = some (.slice (some ⟨g, 0, none⟩) L0.length cap) := c1
  have i1' : w.drew.cell? ⟨g, i * 3 + 1, none⟩ = some (.int .i64 x.rank) := i1
  clear HR HI hlook
  generalize w.drew = U at *
  simp only [List.take_succ_cons, List.take_zero, List.drop_succ_cons, List.drop_zero]
  repeat still_step
  refine wpStill_nil ?_
  refine goesW_ (by first | rfl | kernel_rfl | (simp [Region.wanted, yielded]; done)) (.tmp 24) #[.tmp 25, .tmp 33] #[3, 3] rfl cp rfl HF.out HN.out HD.out #[.int .i64 p, .int .i64 x.rank] (by simp only [List.map_toArray, List.map_cons, List.map_nil]; rfl) ?_
  refine (HC.out p x.rank U HIU.out HRU.out.size).mono ?_
  rintro e w1 ⟨r, rfl, hA, hJ, hK⟩
  have HA := Aside0.mk hA
  have HJ := Aside0.mk hJ
  have HK : Aside0 (Kp w w1 S) := ⟨HKU.out.then_ hK (fun _ h => .inl h)⟩
  have HR2 := Aside0.mk (HRU.out.kept hK (fun k hk => HRU.out.low (HL.out.low k hk)))
  clear hA hJ hK HRU HIU HKU
  refine ⟨_, rfl, ?_⟩
  all_goals clear c0 c1 c2 c0' c1' i1 i1'
  all_goals
    have hK1 : Kp w w1 S := HK.out
    have HK2 : Aside0 (Kp w w1 (fun k => Mine hb pb (.slice (some ⟨g, 0, none⟩) L0.length cap) k ∨ S k)) := ⟨hK1.mono (fun k hk => .inr hk)⟩
    clear hK1 HK
    cases r with
    | false =>
      go_wp2
      go_ret
      exact ⟨false, rfl, HA.out, HJ.out, HK2.out, .inl ⟨rfl, HR2.out⟩⟩
    | true =>
    have c1 : w1.cell? ⟨hb, 1, none⟩ = some (.slice (some ⟨g, 0, none⟩) L0.length cap) := (blk_cell HR2.out.head 1).trans rfl
    have i1 : w1.cell? ⟨g, i * 3 + 1, none⟩ = some (.int .i64 x.rank) := own_cell HR2.out.own _ _ ((flat_get F L0 i 1 x HX.out (by decide)).trans rfl)
    have f1 : w1.frozen? ⟨g, i * 3 + 1, none⟩ = false := own_frozen HR2.out.own _
    go_wp2_with fail
    generalize hW : (World.setCell _ _ _) = W4
    have hW' := Aside0.mk (put_rank HR2.out HX.out p hW)
    clear hW c1 i1 f1
    have HI4 : Aside0 (I W4) := ⟨HL.out.stable _ _ HJ.out (fun k hk => kept_low HR2.out hW'.out.2 hk)⟩
    refine (up_calls HL.out hb pb _ (L0.set i ⟨x.key, p, x.came⟩) c W4 i (by rw [List.length_set]; exact hi) (by rw [List.length_set]; have := HM.out; omega) hW'.out.1 HI4.out).mono ?_
    rintro e w5 ⟨rfl, L1, u1, u2, u3, u4, u5⟩
    have FIN : Aside0 (I w5 ∧ Kp w w5 (fun k => Mine hb pb (.slice (some ⟨g, 0, none⟩) L0.length cap) k ∨ S k) ∧ ∃ L1, UpR A (L0.set i ⟨x.key, p, x.came⟩) i L1 ∧ L1.Perm (L0.set i ⟨x.key, p, x.came⟩) ∧ Rep F w5 base hb pb (.func (.func F0) #[] cp) (.slice (some ⟨g, 0, none⟩) L0.length cap) L1 c) :=
      ⟨u4, Kp.then_ (Kp.then_ HK2.out hW'.out.2 (fun k hk => .inl (.inl hk))) u5 (fun k hk => .inl hk), L1, u1, u3, u2⟩
    clear u1 u2 u3 u4 u5 hW' HI4
    go_wp2
    go_ret
    exact ⟨true, rfl, HA.out, FIN.out.1, FIN.out.2.1, .inr ⟨rfl, FIN.out.2.2⟩⟩
end Go.Proofs.Ytiblnccbeefdkaa.Hii
