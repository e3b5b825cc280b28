/- This text walks the heap's calls over an order that counts how often it is asked (ii): turned from Gii by turnj.py. -/
import Derived.Test.YtiblnccbeefdkaaHdjii
import Derived.Test.YtiblnccbeefdkaaGii
namespace Go.Proofs.Ytiblnccbeefdkaa.Hjii
open Go.Proofs.Ytiblnccbeefdkaa.Hii (F swap_calls push_mid push_end info_it put_rank drop_mid drop_clear drop_end peek_cons)
open Go.RowKit Go.Proofs.YtiblnccbeefdkaaW.PrintWords Go.Proofs.Ytiblnccbeefdkaa.Mp Go.Proofs.Ytiblnccbeefdkaa.Hp
set_option linter.unusedVariables false
set_option linter.unusedSimpArgs false
set_option maxHeartbeats 2000000 in
set_option maxRecDepth 100000 in
theorem push_calls {A : Int → Int → Bool → Prop} {J : Nat → World → Prop} {S : Nat → Prop} {base : Nat} {lv : Value} (L : LessJ Try.prog (Value.int .i64) A lv J S base)
    (hb pb : Nat) (sv : Value) (L0 : List (It Int Int)) (c : Int) (w : World) (k : Int) (p : Int) (hn : L0.length < 1048576) (h0 : 0 ≤ c) (h1 : c < 4611686018427387904) (hk : k ∉ keys L0) (R : Rep F w base hb pb lv sv L0 c) (b : Nat) (hI : J (b + 2 * (L0.length + 1)) w) :
    Calls Try.prog 11 #[.pointer (some ⟨hb, 0, none⟩), .int .i64 k, .int .i64 p] w fun e w' => e = .returned (.bool true) ∧ ∃ sv' L1, UpR A (L0 ++ [⟨k, p, c + 1⟩]) L0.length L1 ∧ Rep F w' base hb pb lv sv' L1 (c + 1) ∧ L1.Perm (L0 ++ [⟨k, p, c + 1⟩]) ∧ J b w' ∧ Kp w w' (fun k => Mine hb pb sv k ∨ S k) ∧ (∀ b, sv'.ownBlock = some b → sv.ownBlock = some b ∨ w.heap.size ≤ b) := by
  have hlook : (Instr.lookup 55 (.map (some pb)) (.int .i64 k) true).run Try.prog w = .ok (.tuple #[.int .i64 0, .bool false]) w := by
    have h := R.map.look F.KV Try.underlying55 Try.underlying3 (z := .int .i64 0) (by kernel_rfl) k
    rw [(place_none k).2 hk] at h
    exact h
  obtain ⟨W2, hupd, HM⟩ := push_mid (x := ⟨k, p, c + 1⟩) R hk (c + 1)
  simp only at hupd
  have c1 : w.cell? ⟨hb, 1, none⟩ = some sv := (blk_cell R.head 1).trans rfl
  have c2 : w.cell? ⟨hb, 2, none⟩ = some (.map (some pb)) := (blk_cell R.head 2).trans rfl
  have c3 : w.cell? ⟨hb, 3, none⟩ = some (.int .i64 c) := (blk_cell R.head 3).trans rfl
  have f3 : w.frozen? ⟨hb, 3, none⟩ = false := blk_frozen R.head 3
  obtain ⟨a, cap, hsv⟩ : ∃ a cap, sv = .slice a L0.length cap := by
    rcases R.own.2 with ⟨hv, h⟩ | ⟨g, cap, _, h, _⟩
    · exact ⟨none, 0, by rw [hv, h]⟩
    · exact ⟨_, _, h⟩
  have d1 : W2.cell? ⟨hb, 1, none⟩ = some sv := (blk_cell HM.out.1 1).trans rfl
  have d3 : W2.cell? ⟨hb, 3, none⟩ = some (.int .i64 (c + 1)) := (blk_cell HM.out.1 3).trans rfl
  have e1 : ∀ v, (w.setCell ⟨hb, 3, none⟩ v).cell? ⟨hb, 1, none⟩ = some sv := fun v => by rw [World.cell?_setCell_other _ _ _ _ (by simp)]; exact c1
  have e2 : ∀ v, (w.setCell ⟨hb, 3, none⟩ v).cell? ⟨hb, 2, none⟩ = some (.map (some pb)) := fun v => by rw [World.cell?_setCell_other _ _ _ _ (by simp)]; exact c2
  obtain ⟨i0, hi, hz0, hz1, hz2⟩ := info_parts info_it
  subst hsv
  have HR := Aside0.mk R
  have HI := Aside0.mk hI
  have HL := Aside0.mk L
  have HK := Aside0.mk hk
  have hbw : base ≤ W2.heap.size := Nat.le_trans R.size HM.out.2.2.2.1
  have HZ := Aside0.mk hi
  have HZ0 := Aside0.mk hz0
  have HZ1 := Aside0.mk hz1
  have HZ2 := Aside0.mk hz2
  have HNB : Aside0 (some hb ≠ (Value.slice a L0.length cap).ownBlock) := ⟨by
    intro h
    rcases R.own.2 with ⟨hv, _⟩ | ⟨g, cap, cur, hv, hbg, hg, _⟩
    · rw [hv] at h; cases h
    · rw [hv] at h
      simp [Value.ownBlock] at h
      subst h
      exact blk_ne hg R.head (by decide) rfl⟩
  generalize hN : L0.length = n at *
  have HN := Aside0.mk hN
  clear R hI L hk hN hi hz0 hz1 hz2
  go_enter Try.func11, Try.ntmps11
  go_wp2
  go_region
  go_wp2
  clear c1 c2 c3 e1 e2 f3 hupd hlook
  have d1a := fun o => cell_alloc (o := o) d1
  go_region_law (refine step_append_at rfl (.tmp 40) (.tmp 48) 56 rfl base 66 i0 _ 3 24 Try.underlying56 HZ.out HZ0.out HZ1.out HZ2.out rfl (by decide) (.slice a n cap) n (flat F L0) rfl (by first | exact own_alloc HM.out.2.1 _ | exact Hp.own_drew (own_alloc HM.out.2.1 _)) ⟨W2.heap.size, 0, none⟩ 1 1 [.int .i64 k, .int .i64 p, .int .i64 (c + 1)] rfl rfl (fun j u h => newrow W2 66 _ j u h) (by intro u hu; simp only [List.mem_cons, List.not_mem_nil, or_false] at hu; rcases hu with rfl | rfl | rfl <;> rfl) (by unfold maxLen; omega) (by omega) (by simp; omega) ?_; intro v' w' hown hgrow hloc; obtain ⟨g2, cap2, rfl⟩ := own_sl_ hown; have HH := Aside0.mk (blk_grown (blk_al HM.out.1) hgrow HNB.out); have q1 : w'.cell? ⟨hb, 1, none⟩ = some (.slice a n cap) := (blk_cell HH.out 1).trans rfl; have q2 : w'.frozen? ⟨hb, 1, none⟩ = false := blk_frozen HH.out 1; have HO := Aside0.mk hown; have HG := Aside0.mk hgrow; have HC := Aside0.mk hloc; clear hown hgrow hloc)
  all_goals
    generalize hW : (World.setCell w' _ _) = W4
    have hn' := HN.out
    subst hn'
    obtain ⟨RR, KK, FR⟩ := push_end HR.out HK.out HM.out HH.out HO.out HG.out HC.out hW
    have HRR := Aside0.mk RR
    have HKK := Aside0.mk KK
    have HFR := Aside0.mk FR
    have HI4 : Aside0 (J (b + 2 * (L0.length + 1)) W4) := ⟨HL.out.stable _ _ _ HI.out (fun k hk => kept_low HR.out KK hk)⟩
    have q3 : W4.cell? ⟨hb, 1, none⟩ = some (.slice (some ⟨g2, 0, none⟩) (L0.length + 1) cap2) := (blk_cell RR.head 1).trans rfl
    clear RR KK FR hW HH HO HG HC HM d1 d1a d3 q1 q2
    go_wp2_with fail
    refine (up_calls HL.out hb pb _ (L0 ++ [⟨k, p, c + 1⟩]) (c + 1) W4 L0.length (by simp) (by simp; omega) HRR.out b HI4.out).mono ?_
    rintro e w5 ⟨rfl, L1, u1, u2, u3, u4, u5⟩
    have FIN : Aside0 (∃ sv' L1, UpR A (L0 ++ [⟨k, p, c + 1⟩]) L0.length L1 ∧ Rep F w5 base hb pb lv sv' L1 (c + 1) ∧ L1.Perm (L0 ++ [⟨k, p, c + 1⟩]) ∧ J b w5 ∧ Kp w w5 (fun k => Mine hb pb (.slice a L0.length cap) k ∨ S k) ∧ (∀ b, sv'.ownBlock = some b → (Value.slice a L0.length cap).ownBlock = some b ∨ w.heap.size ≤ b)) :=
      ⟨_, L1, u1, u2, u3, u4, Kp.then_ (HKK.out.mono (fun k hk => .inl hk)) u5 (fun k hk => by
        rcases hk with (rfl | rfl | hk) | hk
        · exact .inl (.inl (.inl rfl))
        · exact .inl (.inl (.inr (.inl rfl)))
        · rcases HFR.out k hk with h | h
          · exact .inl (.inl (.inr (.inr h)))
          · exact .inr h
        · exact .inl (.inr hk)), HFR.out⟩
    clear u1 u2 u3 u4 u5 HRR HKK HFR HI4
    go_wp2
    go_ret
    exact ⟨rfl, FIN.out⟩
set_option maxHeartbeats 2000000 in
set_option maxRecDepth 100000 in
theorem lower_in {A : Int → Int → Bool → Prop} {J : Nat → World → Prop} {S : Nat → Prop} {base : Nat} {lv : Value} (L : LessJ Try.prog (Value.int .i64) A lv J S base) {hb pb : Nat} {sv : Value} {L0 : List (It Int Int)} {c : Int} {w : World} (R : Rep F w base hb pb lv sv L0 c) (b : Nat) {i : Nat} {x : It Int Int} (hx : L0[i]? = some x) (p : Int) (hI : J (b + 2 * (i + 1) + 1) w) (hn : L0.length ≤ 1152921504606846976) :
    Calls Try.prog 14 #[.pointer (some ⟨hb, 0, none⟩), .int .i64 x.key, .int .i64 p] w fun e w' => ∃ r, e = .returned (.bool r) ∧ A p x.rank r ∧ J b w' ∧ Kp w w' (fun k => Mine hb pb sv k ∨ S k) ∧ ((r = false ∧ Rep F w' base hb pb lv sv L0 c) ∨ (r = true ∧ ∃ L1, UpR A (L0.set i ⟨x.key, p, x.came⟩) i L1 ∧ L1.Perm (L0.set i ⟨x.key, p, x.came⟩) ∧ Rep F w' base hb pb lv sv L1 c)) := by
  have hlook : (Instr.lookup 55 (.map (some pb)) (.int .i64 x.key) true).run Try.prog w = .ok (.tuple #[.int .i64 (i : Int), .bool true]) w := by
    have h := R.map.look F.KV Try.underlying55 Try.underlying3 (z := .int .i64 0) (by kernel_rfl) x.key
    rw [(place_iff R.nodup x.key i).2 ⟨x, hx, rfl⟩] at h
    exact h
  have hi := (List.getElem?_eq_some_iff.1 hx).1
  obtain ⟨g, cap, rfl⟩ := R.slice (by omega)
  obtain ⟨F0, fn, cp, rfl, hf, hn1, hbd, hcalls⟩ := L.calls
  have c0 : w.cell? ⟨hb, 0, none⟩ = some (.func (.func F0) #[] cp) := (blk_cell R.head 0).trans rfl
  have c1 : w.cell? ⟨hb, 1, none⟩ = some (.slice (some ⟨g, 0, none⟩) L0.length cap) := (blk_cell R.head 1).trans rfl
  have c2 : w.cell? ⟨hb, 2, none⟩ = some (.map (some pb)) := (blk_cell R.head 2).trans rfl
  have i1 : w.cell? ⟨g, i * 3 + 1, none⟩ = some (.int .i64 x.rank) := own_cell R.own _ _ ((flat_get F L0 i 1 x hx (by decide)).trans rfl)
  have HX := Aside0.mk hx
  have HR := Aside0.mk R
  have HI := Aside0.mk hI
  have HC := Aside0.mk hcalls
  have HF := Aside0.mk hf
  have HN := Aside0.mk hn1
  have HD := Aside0.mk hbd
  have HL := Aside0.mk L
  have HM := Aside0.mk hn
  clear R hI hcalls hf hn1 hbd L hx hn
  go_enter Try.func14, Try.ntmps14
  go_wp2
  refine wp_region_still_tail 16 (by kernel_rfl) (by kernel_rfl) ?_
  change wpStill _ _ w.drew (fun a' => wpList _ _ _ _ a' w.drew) _ _
  have HIU : Aside0 (J (b + 2 * (i + 1) + 1) w.drew) := ⟨HL.out.stable _ w w.drew HI.out (fun _ _ => rfl)⟩
  have HRU : Aside0 (Rep F w.drew base hb pb (.func (.func F0) #[] cp) (.slice (some ⟨g, 0, none⟩) L0.length cap) L0 c) := ⟨HR.out.kept ((Kp.refl w (fun _ => False)).drew) (fun _ h => h.elim)⟩
  have HKU : Aside0 (Kp w w.drew S) := ⟨(Kp.refl w S).drew⟩
  have c0' : w.drew.cell? ⟨hb, 0, none⟩ = some (.func (.func F0) #[] cp) := c0
  have c1' : w.drew.cell? ⟨hb, 1, none⟩ = some (.slice (some ⟨g, 0, none⟩) L0.length cap) := c1
  have i1' : w.drew.cell? ⟨g, i * 3 + 1, none⟩ = some (.int .i64 x.rank) := i1
  clear HR HI hlook
  generalize w.drew = U at *
  simp only [List.take_succ_cons, List.take_zero, List.drop_succ_cons, List.drop_zero]
  repeat still_step
  refine wpStill_nil ?_
  refine goesW_ (by first | rfl | kernel_rfl | (simp [Region.wanted, yielded]; done)) (.tmp 24) #[.tmp 25, .tmp 33] #[3, 3] rfl cp rfl HF.out HN.out HD.out #[.int .i64 p, .int .i64 x.rank] (by simp only [List.map_toArray, List.map_cons, List.map_nil]; rfl) ?_
  refine (HC.out p x.rank U (b + 2 * (i + 1)) HIU.out HRU.out.size).mono ?_
  rintro e w1 ⟨r, rfl, hA, hJ, hK⟩
  have HA := Aside0.mk hA
  have HJ := Aside0.mk hJ
  have HK : Aside0 (Kp w w1 S) := ⟨HKU.out.then_ hK (fun _ h => .inl h)⟩
  have HR2 := Aside0.mk (HRU.out.kept hK (fun k hk => HRU.out.low (HL.out.low k hk)))
  clear hA hJ hK HRU HIU HKU
  refine ⟨_, rfl, ?_⟩
  all_goals clear c0 c1 c2 c0' c1' i1 i1'
  all_goals
    have hK1 : Kp w w1 S := HK.out
    have HK2 : Aside0 (Kp w w1 (fun k => Mine hb pb (.slice (some ⟨g, 0, none⟩) L0.length cap) k ∨ S k)) := ⟨hK1.mono (fun k hk => .inr hk)⟩
    clear hK1 HK
    cases r with
    | false =>
      go_wp2
      go_ret
      exact ⟨false, rfl, HA.out, HL.out.le _ HJ.out, HK2.out, .inl ⟨rfl, HR2.out⟩⟩
    | true =>
    have c1 : w1.cell? ⟨hb, 1, none⟩ = some (.slice (some ⟨g, 0, none⟩) L0.length cap) := (blk_cell HR2.out.head 1).trans rfl
    have i1 : w1.cell? ⟨g, i * 3 + 1, none⟩ = some (.int .i64 x.rank) := own_cell HR2.out.own _ _ ((flat_get F L0 i 1 x HX.out (by decide)).trans rfl)
    have f1 : w1.frozen? ⟨g, i * 3 + 1, none⟩ = false := own_frozen HR2.out.own _
    go_wp2_with fail
    generalize hW : (World.setCell _ _ _) = W4
    have hW' := Aside0.mk (put_rank HR2.out HX.out p hW)
    clear hW c1 i1 f1
    have HI4 : Aside0 (J (b + 2 * (i + 1)) W4) := ⟨HL.out.stable _ _ _ HJ.out (fun k hk => kept_low HR2.out hW'.out.2 hk)⟩
    refine (up_calls HL.out hb pb _ (L0.set i ⟨x.key, p, x.came⟩) c W4 i (by rw [List.length_set]; exact hi) (by rw [List.length_set]; have := HM.out; omega) hW'.out.1 b HI4.out).mono ?_
    rintro e w5 ⟨rfl, L1, u1, u2, u3, u4, u5⟩
    have FIN : Aside0 (J b w5 ∧ Kp w w5 (fun k => Mine hb pb (.slice (some ⟨g, 0, none⟩) L0.length cap) k ∨ S k) ∧ ∃ L1, UpR A (L0.set i ⟨x.key, p, x.came⟩) i L1 ∧ L1.Perm (L0.set i ⟨x.key, p, x.came⟩) ∧ Rep F w5 base hb pb (.func (.func F0) #[] cp) (.slice (some ⟨g, 0, none⟩) L0.length cap) L1 c) :=
      ⟨u4, Kp.then_ (Kp.then_ HK2.out hW'.out.2 (fun k hk => .inl (.inl hk))) u5 (fun k hk => .inl hk), L1, u1, u3, u2⟩
    clear u1 u2 u3 u4 u5 hW' HI4
    go_wp2
    go_ret
    exact ⟨true, rfl, HA.out, FIN.out.1, FIN.out.2.1, .inr ⟨rfl, FIN.out.2.2⟩⟩
set_option maxHeartbeats 3000000 in
set_option maxRecDepth 100000 in
theorem drop_in {A : Int → Int → Bool → Prop} {J : Nat → World → Prop} {S : Nat → Prop} {base : Nat} {lv : Value} (L : LessJ Try.prog (Value.int .i64) A lv J S base) {hb pb : Nat} {sv : Value} {L0 : List (It Int Int)} {c : Int} {w : World} (R : Rep F w base hb pb lv sv L0 c) (b : Nat) {i : Nat} {x : It Int Int} (hx : L0[i]? = some x) (hI : J (b + 4 * (L0.length - 1 - i) + 2 * (i + 1)) w) (hn : L0.length ≤ 1048576) :
    Calls Try.prog 16 #[.pointer (some ⟨hb, 0, none⟩), .int .i64 x.key] w fun e w' => e = .returned (.bool true) ∧ ∃ sv' L1, DropR A L0 i L1 ∧ Rep F w' base hb pb lv sv' L1 c ∧ J b w' ∧ Kp w w' (fun k => Mine hb pb sv k ∨ S k) ∧ sv'.ownBlock = sv.ownBlock := by
  have hi := (List.getElem?_eq_some_iff.1 hx).1
  obtain ⟨g, cap, rfl⟩ := R.slice (by omega)
  obtain ⟨m, hm⟩ : ∃ m, L0.length = m + 1 := ⟨L0.length - 1, by omega⟩
  have hlook : (Instr.lookup 55 (.map (some pb)) (.int .i64 x.key) true).run Try.prog w = .ok (.tuple #[.int .i64 (i : Int), .bool true]) w := by
    have h := R.map.look F.KV Try.underlying55 Try.underlying3 (z := .int .i64 0) (by kernel_rfl) x.key
    rw [(place_iff R.nodup x.key i).2 ⟨x, hx, rfl⟩] at h
    exact h
  have c1 : w.cell? ⟨hb, 1, none⟩ = some (.slice (some ⟨g, 0, none⟩) (m + 1) cap) := (blk_cell R.head 1).trans (by rw [hm]; rfl)
  have c2 : w.cell? ⟨hb, 2, none⟩ = some (.map (some pb)) := (blk_cell R.head 2).trans rfl
  obtain ⟨y, hy⟩ : ∃ y, L0[m]? = some y := ⟨_, List.getElem?_eq_getElem (by omega)⟩
  have hgx : (swp L0 i m)[m]? = some x := by rw [swp_get hx hy, if_pos rfl]
  have hcap : m + 1 ≤ cap ∧ cap ≤ maxLen := by
    obtain ⟨cur, _, _, h1, h2, _⟩ := own_blk? R.own
    exact ⟨by omega, h2⟩
  have hcm : cap ≤ 9223372036854775807 := by have := hcap.2; unfold maxLen at this; omega
  have hc1 := hcap.1
  have hmn : m < 1048576 := by omega
  have him : i ≤ m := by omega
  clear hcap
  have HX := Aside0.mk hx
  have HY := Aside0.mk hy
  have HG := Aside0.mk hgx
  have HR := Aside0.mk R
  have HI := Aside0.mk hI
  have HL := Aside0.mk L
  have HM := Aside0.mk hm
  have HN := Aside0.mk hn
  clear R hI L hx hy hgx hm hn hi
  go_enter Try.func16, Try.ntmps16
  go_wp2_with fail
  clear hlook c1 c2
  refine (swap_calls base hb pb lv _ L0 c w i m (by have := HM.out; omega) (by have := HM.out; omega) HR.out).mono ?_
  rintro e w1 ⟨rfl, hR1, hK1⟩
  have hlen : (swp L0 i m).length = m + 1 := by rw [swp_len]; exact HM.out
  obtain ⟨W2, hdel, HD⟩ := drop_mid hR1 hlen HG.out
  have HR1 := Aside0.mk hR1
  have HK1 := Aside0.mk hK1
  have HE := Aside0.mk hlen
  have e1 : w1.cell? ⟨hb, 2, none⟩ = some (.map (some pb)) := (blk_cell hR1.head 2).trans rfl
  have d1 : W2.cell? ⟨hb, 1, none⟩ = some (.slice (some ⟨g, 0, none⟩) (m + 1) cap) := (blk_cell HD.out.1 1).trans (by rw [HM.out]; rfl)
  have d2 : W2.frozen? ⟨hb, 1, none⟩ = false := blk_frozen HD.out.1 1
  have hO : W2.ownsRow base F.it F.sz (.slice (some ⟨g, 0, none⟩) (m + 1) cap) (m + 1) (flat F (swp L0 i m)) := by
    have h := HD.out.2.1
    rw [hlen, HM.out] at h
    exact h
  have hgh : g ≠ hb := by
    obtain ⟨cur, hg, _⟩ := own_blk? hO
    exact blk_ne hg HD.out.1 (by decide)
  have z0 : W2.cell? ⟨g, m * 3, none⟩ = some (.int .i64 x.key) := own_cell hO _ _ ((flat_get F _ m 0 x HG.out (by decide)).trans rfl)
  have z1 : W2.cell? ⟨g, m * 3 + 1, none⟩ = some (.int .i64 x.rank) := own_cell hO _ _ ((flat_get F _ m 1 x HG.out (by decide)).trans rfl)
  have z2 : W2.cell? ⟨g, m * 3 + 2, none⟩ = some (.int .i64 x.came) := own_cell hO _ _ ((flat_get F _ m 2 x HG.out (by decide)).trans rfl)
  have hclr := fun ty => drop_clear W2 g m (cap - m) ty z0 z1 z2 (own_frozen hO _) (own_frozen hO _) (own_frozen hO _)
  have d1' : ((((W2.setCell ⟨g, m * 3, none⟩ (.int .i64 0)).setCell ⟨g, m * 3 + 1, none⟩ (.int .i64 0)).setCell ⟨g, m * 3 + 2, none⟩ (.int .i64 0))).cell? ⟨hb, 1, none⟩ = some (.slice (some ⟨g, 0, none⟩) (m + 1) cap) := by
    rw [World.cell?_setCell_other _ _ _ _ (by intro e; simp only [Addr.mk.injEq] at e; exact hgh e.1), World.cell?_setCell_other _ _ _ _ (by intro e; simp only [Addr.mk.injEq] at e; exact hgh e.1), World.cell?_setCell_other _ _ _ _ (by intro e; simp only [Addr.mk.injEq] at e; exact hgh e.1)]
    exact d1
  clear hR1 hK1 hlen hO z0 z1 z2
  have END : Aside0 (∀ W4, ((((W2.setCell ⟨g, m * 3, none⟩ (.int .i64 0)).setCell ⟨g, m * 3 + 1, none⟩ (.int .i64 0)).setCell ⟨g, m * 3 + 2, none⟩ (.int .i64 0))).setCell ⟨hb, 1, none⟩ (.slice (some ⟨g, 0, none⟩) m cap) = W4 → Rep F W4 base hb pb lv (.slice (some ⟨g, 0, none⟩) m cap) (swp L0 i (L0.length - 1)).dropLast c ∧ Kp w W4 (Mine hb pb (.slice (some ⟨g, 0, none⟩) L0.length cap))) := ⟨fun W4 hW => by
    have R1 := HR1.out
    have D := HD.out
    rw [HM.out] at R1 D
    have h := drop_end R1 HE.out D hW
    rw [HM.out, Nat.add_sub_cancel]
    exact ⟨h.1, Kp.then_ (HK1.out.mono (fun k hk => .inr (by rw [HM.out] at hk; exact hk))) h.2 (fun k hk => .inl hk)⟩⟩
  by_cases hlt : i < m
  · have t1 : decide ((i : Int) < (m : Int)) = true := by simp; omega
    go_wp2_with fail
    generalize hW : (World.setCell _ _ (Value.slice _ m cap)) = W4
    have hE := END.out W4 hW
    have HRR := Aside0.mk hE.1
    have HKK := Aside0.mk hE.2
    have HI4 : Aside0 (J (b + 4 * (L0.length - 1 - i) + 2 * (i + 1)) W4) := ⟨HL.out.stable _ _ _ HI.out (fun k hk => kept_low HR.out hE.2 hk)⟩
    clear hW hE END hclr hdel d1 d1' d2 e1
    refine (up_calls HL.out hb pb _ _ c W4 i (by rw [List.length_dropLast, swp_len, HM.out]; omega) (by rw [List.length_dropLast, swp_len, HM.out]; omega) HRR.out (b + 4 * (L0.length - 1 - i)) HI4.out).mono ?_
    rintro e w5 ⟨rfl, L3, u1, u2, u3, u4, u5⟩
    have U1 := Aside0.mk u1
    have U2 := Aside0.mk u2
    have U4 := Aside0.mk u4
    have U5 := Aside0.mk u5
    have hl3 : L3.length = m := by rw [u3.length_eq, List.length_dropLast, swp_len, HM.out]; rfl
    clear u1 u2 u3 u4 u5
    have HL3 := Aside0.mk hl3
    clear hl3
    go_wp2_with fail
    refine (down_calls HL.out hb pb _ L3 c w5 i (by have := HL3.out; omega) (by have := HL3.out; omega) U2.out b (by have h := U4.out; have e1 := HL3.out; have e2 := HM.out; rw [e2] at h; rw [e1]; exact h)).mono ?_
    rintro e w6 ⟨rfl, L4, v1, v2, v3, v4, v5⟩
    have FIN : Aside0 (∃ sv' L1, DropR A L0 i L1 ∧ Rep F w6 base hb pb lv sv' L1 c ∧ J b w6 ∧ Kp w w6 (fun k => Mine hb pb (.slice (some ⟨g, 0, none⟩) L0.length cap) k ∨ S k) ∧ sv'.ownBlock = (Value.slice (some ⟨g, 0, none⟩) L0.length cap).ownBlock) :=
      ⟨_, L4, .inl ⟨by have := HM.out; omega, L3, U1.out, v1⟩, v2, v4, Kp.then_ (Kp.then_ (HKK.out.mono (fun k hk => .inl hk)) U5.out (fun k hk => .inl hk)) v5 (fun k hk => .inl hk), rfl⟩
    clear v1 v2 v3 v4 v5 U1 U2 U4 U5 HRR HKK HI4
    go_wp2
    go_ret
    exact ⟨rfl, FIN.out⟩
  · have t1 : decide ((i : Int) < (m : Int)) = false := by simp; omega
    have hie : i = m := by omega
    have HIE := Aside0.mk hie
    clear hie him
    go_wp2
    go_ret
    refine ⟨rfl, ?_⟩
    generalize hW : (World.setCell _ _ (Value.slice _ m cap)) = W4
    have hE := END.out W4 hW
    have HI4 : Aside0 (J (b + 4 * (L0.length - 1 - i) + 2 * (i + 1)) W4) := ⟨HL.out.stable _ _ _ HI.out (fun k hk => kept_low HR.out hE.2 hk)⟩
    exact ⟨_, _, .inr ⟨by have := HM.out; have := HIE.out; omega, rfl⟩, hE.1, HL.out.le _ (show J (b + (4 * (L0.length - 1 - i) + 2 * (i + 1))) W4 by rw [← Nat.add_assoc]; exact HI4.out), hE.2.mono (fun k hk => .inl hk), rfl⟩
set_option maxHeartbeats 1000000 in
theorem pop_cons {A : Int → Int → Bool → Prop} {J : Nat → World → Prop} {S : Nat → Prop} {base : Nat} {lv : Value} (L : LessJ Try.prog (Value.int .i64) A lv J S base) {hb pb : Nat} {sv : Value} {L0 : List (It Int Int)} {c : Int} {w : World} (R : Rep F w base hb pb lv sv L0 c) (b : Nat) {x : It Int Int} (hx : L0[0]? = some x) (hI : J (b + 4 * (L0.length - 1) + 2) w) (hn : L0.length ≤ 1048576) :
    Calls Try.prog 12 #[.pointer (some ⟨hb, 0, none⟩)] w fun e w' => e = .returned (.tuple #[.int .i64 x.key, .int .i64 x.rank, .bool true]) ∧ ∃ sv' L1, DropR A L0 0 L1 ∧ Rep F w' base hb pb lv sv' L1 c ∧ J b w' ∧ Kp w w' (fun k => Mine hb pb sv k ∨ S k) ∧ sv'.ownBlock = sv.ownBlock := by
  have HR := Aside0.mk R
  have HI := Aside0.mk hI
  have HL := Aside0.mk L
  have HX := Aside0.mk hx
  have HN := Aside0.mk hn
  clear R hI L hx hn
  go_enter Try.func12, Try.ntmps12
  go_wp2_with fail
  refine (peek_cons HR.out HX.out).mono ?_
  rintro e w1 ⟨rfl, hK⟩
  have HK := Aside0.mk hK
  have HI1 : Aside0 (J (b + 4 * (L0.length - 1) + 2) w1) := ⟨HL.out.stable _ _ _ HI.out (fun k hk => hK.2 k (Nat.lt_of_lt_of_le hk HR.out.size) (fun h => h))⟩
  have HR1 := Aside0.mk (HR.out.kept hK (fun _ h => h.elim))
  clear hK
  go_wp2_with fail
  refine (drop_in HL.out HR1.out b HX.out HI1.out HN.out).mono ?_
  rintro e w2 ⟨rfl, sv', L1, h1, h2, h3, h4, h5⟩
  have FIN : Aside0 (∃ sv' L1, DropR A L0 0 L1 ∧ Rep F w2 base hb pb lv sv' L1 c ∧ J b w2 ∧ Kp w w2 (fun k => Mine hb pb sv k ∨ S k) ∧ sv'.ownBlock = sv.ownBlock) :=
    ⟨sv', L1, h1, h2, h3, Kp.then_ (HK.out.mono (fun _ h => h.elim)) h4 (fun k hk => .inl hk), h5⟩
  clear h1 h2 h3 h4 h5
  go_wp2
  go_ret3
  exact ⟨rfl, FIN.out⟩
end Go.Proofs.Ytiblnccbeefdkaa.Hjii
