/- This text walks the heap's functions over keys and ranks of one kind (ii): printed by gen.py. -/
import Derived.Test.YtiocnkoogachkaaHdmii
import Derived.Test.YtiocnkoogachkaaHdii
namespace Go.Proofs.Ytiocnkoogachkaa.Hii
open Go.RowKit Go.Proofs.YtiocnkoogachkaaW.PrintWords Go.Proofs.Ytiocnkoogachkaa.Mp Go.Proofs.Ytiocnkoogachkaa.Hp
set_option linter.unusedVariables false
set_option linter.unusedSimpArgs false
set_option maxHeartbeats 3000000 in
set_option maxRecDepth 100000 in
theorem drop_in {A : Int → Int → Bool → Prop} {I : World → Prop} {S : Nat → Prop} {base : Nat} {lv : Value} (L : LessOk Try.prog (Value.int .i64) A lv I S base) {hb pb : Nat} {sv : Value} {L0 : List (It Int Int)} {c : Int} {w : World} (R : Rep F w base hb pb lv sv L0 c) (hI : I w) {i : Nat} {x : It Int Int} (hx : L0[i]? = some x) (hn : L0.length ≤ 1048576) :
    Calls Try.prog 34 #[.pointer (some ⟨hb, 0, none⟩), .int .i64 x.key] w fun e w' => e = .returned (.bool true) ∧ ∃ sv' L1, DropR A L0 i L1 ∧ Rep F w' base hb pb lv sv' L1 c ∧ I w' ∧ Kp w w' (fun k => Mine hb pb sv k ∨ S k) ∧ sv'.ownBlock = sv.ownBlock := by
  have hi := (List.getElem?_eq_some_iff.1 hx).1
  obtain ⟨g, cap, rfl⟩ := R.slice (by omega)
  obtain ⟨m, hm⟩ : ∃ m, L0.length = m + 1 := ⟨L0.length - 1, by omega⟩
  have hlook : (Instr.lookup 81 (.map (some pb)) (.int .i64 x.key) true).run Try.prog w = .ok (.tuple #[.int .i64 (i : Int), .bool true]) w := by
    have h := R.map.look F.KV Try.underlying81 Try.underlying3 (z := .int .i64 0) (by kernel_rfl) x.key
    rw [(place_iff R.nodup x.key i).2 ⟨x, hx, rfl⟩] at h
    exact h
  have c1 : w.cell? ⟨hb, 1, none⟩ = some (.slice (some ⟨g, 0, none⟩) (m + 1) cap) := (blk_cell R.head 1).trans (by rw [hm]; rfl)
  have c2 : w.cell? ⟨hb, 2, none⟩ = some (.map (some pb)) := (blk_cell R.head 2).trans rfl
  obtain ⟨y, hy⟩ : ∃ y, L0[m]? = some y := ⟨_, List.getElem?_eq_getElem (by omega)⟩
  have hgx : (swp L0 i m)[m]? = some x := by rw [swp_get hx hy, if_pos rfl]
  have hcap : m + 1 ≤ cap ∧ cap ≤ maxLen := by
    obtain ⟨cur, _, _, h1, h2, _⟩ := own_blk? R.own
    exact ⟨by omega, h2⟩
  have hcm : cap ≤ 9223372036854775807 := by have := hcap.2; unfold maxLen at this; omega
  have hc1 := hcap.1
  have hmn : m < 1048576 := by omega
  have him : i ≤ m := by omega
  clear hcap
  have HX := Aside0.mk hx
  have HY := Aside0.mk hy
  have HG := Aside0.mk hgx
  have HR := Aside0.mk R
  have HI := Aside0.mk hI
  have HL := Aside0.mk L
  have HM := Aside0.mk hm
  have HN := Aside0.mk hn
  clear R hI L hx hy hgx hm hn hi
  go_enter Try.func34, Try.ntmps34
  go_wp2_with fail
  clear hlook c1 c2
  refine (swap_calls base hb pb lv _ L0 c w i m (by have := HM.out; omega) (by have := HM.out; omega) HR.out).mono ?_
  rintro e w1 ⟨rfl, hR1, hK1⟩
  have hlen : (swp L0 i m).length = m + 1 := by rw [swp_len]; exact HM.out
  obtain ⟨W2, hdel, HD⟩ := drop_mid hR1 hlen HG.out
  have HR1 := Aside0.mk hR1
  have HK1 := Aside0.mk hK1
  have HE := Aside0.mk hlen
  have e1 : w1.cell? ⟨hb, 2, none⟩ = some (.map (some pb)) := (blk_cell hR1.head 2).trans rfl
  have d1 : W2.cell? ⟨hb, 1, none⟩ = some (.slice (some ⟨g, 0, none⟩) (m + 1) cap) := (blk_cell HD.out.1 1).trans (by rw [HM.out]; rfl)
  have d2 : W2.frozen? ⟨hb, 1, none⟩ = false := blk_frozen HD.out.1 1
  have hO : W2.ownsRow base F.it F.sz (.slice (some ⟨g, 0, none⟩) (m + 1) cap) (m + 1) (flat F (swp L0 i m)) := by
    have h := HD.out.2.1
    rw [hlen, HM.out] at h
    exact h
  have hgh : g ≠ hb := by
    obtain ⟨cur, hg, _⟩ := own_blk? hO
    exact blk_ne hg HD.out.1 (by decide)
  have z0 : W2.cell? ⟨g, m * 3, none⟩ = some (.int .i64 x.key) := own_cell hO _ _ ((flat_get F _ m 0 x HG.out (by decide)).trans rfl)
  have z1 : W2.cell? ⟨g, m * 3 + 1, none⟩ = some (.int .i64 x.rank) := own_cell hO _ _ ((flat_get F _ m 1 x HG.out (by decide)).trans rfl)
  have z2 : W2.cell? ⟨g, m * 3 + 2, none⟩ = some (.int .i64 x.came) := own_cell hO _ _ ((flat_get F _ m 2 x HG.out (by decide)).trans rfl)
  have hclr := fun ty => drop_clear W2 g m (cap - m) ty z0 z1 z2 (own_frozen hO _) (own_frozen hO _) (own_frozen hO _)
  have d1' : ((((W2.setCell ⟨g, m * 3, none⟩ (.int .i64 0)).setCell ⟨g, m * 3 + 1, none⟩ (.int .i64 0)).setCell ⟨g, m * 3 + 2, none⟩ (.int .i64 0))).cell? ⟨hb, 1, none⟩ = some (.slice (some ⟨g, 0, none⟩) (m + 1) cap) := by
    rw [World.cell?_setCell_other _ _ _ _ (by intro e; simp only [Addr.mk.injEq] at e; exact hgh e.1), World.cell?_setCell_other _ _ _ _ (by intro e; simp only [Addr.mk.injEq] at e; exact hgh e.1), World.cell?_setCell_other _ _ _ _ (by intro e; simp only [Addr.mk.injEq] at e; exact hgh e.1)]
    exact d1
  clear hR1 hK1 hlen hO z0 z1 z2
  have END : Aside0 (∀ W4, ((((W2.setCell ⟨g, m * 3, none⟩ (.int .i64 0)).setCell ⟨g, m * 3 + 1, none⟩ (.int .i64 0)).setCell ⟨g, m * 3 + 2, none⟩ (.int .i64 0))).setCell ⟨hb, 1, none⟩ (.slice (some ⟨g, 0, none⟩) m cap) = W4 → Rep F W4 base hb pb lv (.slice (some ⟨g, 0, none⟩) m cap) (swp L0 i (L0.length - 1)).dropLast c ∧ Kp w W4 (Mine hb pb (.slice (some ⟨g, 0, none⟩) L0.length cap))) := ⟨fun W4 hW => by
    have R1 := HR1.out
    have D := HD.out
    rw [HM.out] at R1 D
    have h := drop_end R1 HE.out D hW
    rw [HM.out, Nat.add_sub_cancel]
    exact ⟨h.1, Kp.then_ (HK1.out.mono (fun k hk => .inr (by rw [HM.out] at hk; exact hk))) h.2 (fun k hk => .inl hk)⟩⟩
  by_cases hlt : i < m
  · have t1 : decide ((i : Int) < (m : Int)) = true := by simp; omega
    go_wp2_with fail
    generalize hW : (World.setCell _ _ (Value.slice _ m cap)) = W4
    have hE := END.out W4 hW
    have HRR := Aside0.mk hE.1
    have HKK := Aside0.mk hE.2
    have HI4 : Aside0 (I W4) := ⟨HL.out.stable _ _ HI.out (fun k hk => kept_low HR.out hE.2 hk)⟩
    clear hW hE END hclr hdel d1 d1' d2 e1
    refine (up_calls HL.out hb pb _ _ c W4 i (by rw [List.length_dropLast, swp_len, HM.out]; omega) (by rw [List.length_dropLast, swp_len, HM.out]; omega) HRR.out HI4.out).mono ?_
    rintro e w5 ⟨rfl, L3, u1, u2, u3, u4, u5⟩
    have U1 := Aside0.mk u1
    have U2 := Aside0.mk u2
    have U4 := Aside0.mk u4
    have U5 := Aside0.mk u5
    have hl3 : L3.length = m := by rw [u3.length_eq, List.length_dropLast, swp_len, HM.out]; rfl
    clear u1 u2 u3 u4 u5
    have HL3 := Aside0.mk hl3
    clear hl3
    go_wp2_with fail
    refine (down_calls HL.out hb pb _ L3 c w5 i (by have := HL3.out; omega) (by have := HL3.out; omega) U2.out U4.out).mono ?_
    rintro e w6 ⟨rfl, L4, v1, v2, v3, v4, v5⟩
    have FIN : Aside0 (∃ sv' L1, DropR A L0 i L1 ∧ Rep F w6 base hb pb lv sv' L1 c ∧ I w6 ∧ Kp w w6 (fun k => Mine hb pb (.slice (some ⟨g, 0, none⟩) L0.length cap) k ∨ S k) ∧ sv'.ownBlock = (Value.slice (some ⟨g, 0, none⟩) L0.length cap).ownBlock) :=
      ⟨_, L4, .inl ⟨by have := HM.out; omega, L3, U1.out, v1⟩, v2, v4, Kp.then_ (Kp.then_ (HKK.out.mono (fun k hk => .inl hk)) U5.out (fun k hk => .inl hk)) v5 (fun k hk => .inl hk), rfl⟩
    clear v1 v2 v3 v4 v5 U1 U2 U4 U5 HRR HKK HI4
    go_wp2
    go_ret
    exact ⟨rfl, FIN.out⟩
  · have t1 : decide ((i : Int) < (m : Int)) = false := by simp; omega
    have hie : i = m := by omega
    have HIE := Aside0.mk hie
    clear hie him
    go_wp2
    go_ret
    refine ⟨rfl, ?_⟩
    generalize hW : (World.setCell _ _ (Value.slice _ m cap)) = W4
    have hE := END.out W4 hW
    have HI4 : Aside0 (I W4) := ⟨HL.out.stable _ _ HI.out (fun k hk => kept_low HR.out hE.2 hk)⟩
    exact ⟨_, _, .inr ⟨by have := HM.out; have := HIE.out; omega, rfl⟩, hE.1, HI4.out, hE.2.mono (fun k hk => .inl hk), rfl⟩
end Go.Proofs.Ytiocnkoogachkaa.Hii
