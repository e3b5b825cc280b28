/- This text walks the heap's functions over keys and ranks of one kind (ii): printed by gen.py. -/
import Derived.Test.YtiocnkoogachkaaHpmii
import Derived.Test.YtiocnkoogachkaaHdii
namespace Go.Proofs.Ytiocnkoogachkaa.Hii
open Go.RowKit Go.Proofs.YtiocnkoogachkaaW.PrintWords Go.Proofs.Ytiocnkoogachkaa.Mp Go.Proofs.Ytiocnkoogachkaa.Hp
set_option linter.unusedVariables false
set_option linter.unusedSimpArgs false
set_option maxHeartbeats 2000000 in
set_option maxRecDepth 100000 in
theorem push_calls {A : Int → Int → Bool → Prop} {I : World → Prop} {S : Nat → Prop} {base : Nat} {lv : Value} (L : LessOk Try.prog (Value.int .i64) A lv I S base)
    (hb pb : Nat) (sv : Value) (L0 : List (It Int Int)) (c : Int) (w : World) (k : Int) (p : Int) (hn : L0.length < 1048576) (h0 : 0 ≤ c) (h1 : c < 4611686018427387904) (hk : k ∉ keys L0) (R : Rep F w base hb pb lv sv L0 c) (hI : I w) :
    Calls Try.prog 31 #[.pointer (some ⟨hb, 0, none⟩), .int .i64 k, .int .i64 p] w fun e w' => e = .returned (.bool true) ∧ ∃ sv' L1, UpR A (L0 ++ [⟨k, p, c + 1⟩]) L0.length L1 ∧ Rep F w' base hb pb lv sv' L1 (c + 1) ∧ L1.Perm (L0 ++ [⟨k, p, c + 1⟩]) ∧ I w' ∧ Kp w w' (fun k => Mine hb pb sv k ∨ S k) ∧ (∀ b, sv'.ownBlock = some b → sv.ownBlock = some b ∨ w.heap.size ≤ b) := by
  have hlook : (Instr.lookup 81 (.map (some pb)) (.int .i64 k) true).run Try.prog w = .ok (.tuple #[.int .i64 0, .bool false]) w := by
    have h := R.map.look F.KV Try.underlying81 Try.underlying3 (z := .int .i64 0) (by kernel_rfl) k
    rw [(place_none k).2 hk] at h
    exact h
  obtain ⟨W2, hupd, HM⟩ := push_mid (x := ⟨k, p, c + 1⟩) R hk (c + 1)
  simp only at hupd
  have c1 : w.cell? ⟨hb, 1, none⟩ = some sv := (blk_cell R.head 1).trans rfl
  have c2 : w.cell? ⟨hb, 2, none⟩ = some (.map (some pb)) := (blk_cell R.head 2).trans rfl
  have c3 : w.cell? ⟨hb, 3, none⟩ = some (.int .i64 c) := (blk_cell R.head 3).trans rfl
  have f3 : w.frozen? ⟨hb, 3, none⟩ = false := blk_frozen R.head 3
  obtain ⟨a, cap, hsv⟩ : ∃ a cap, sv = .slice a L0.length cap := by
    rcases R.own.2 with ⟨hv, h⟩ | ⟨g, cap, _, h, _⟩
    · exact ⟨none, 0, by rw [hv, h]⟩
    · exact ⟨_, _, h⟩
  have d1 : W2.cell? ⟨hb, 1, none⟩ = some sv := (blk_cell HM.out.1 1).trans rfl
  have d3 : W2.cell? ⟨hb, 3, none⟩ = some (.int .i64 (c + 1)) := (blk_cell HM.out.1 3).trans rfl
  have e1 : ∀ v, (w.setCell ⟨hb, 3, none⟩ v).cell? ⟨hb, 1, none⟩ = some sv := fun v => by rw [World.cell?_setCell_other _ _ _ _ (by simp)]; exact c1
  have e2 : ∀ v, (w.setCell ⟨hb, 3, none⟩ v).cell? ⟨hb, 2, none⟩ = some (.map (some pb)) := fun v => by rw [World.cell?_setCell_other _ _ _ _ (by simp)]; exact c2
  obtain ⟨i0, hi, hz0, hz1, hz2⟩ := info_parts info_it
  subst hsv
  have HR := Aside0.mk R
  have HI := Aside0.mk hI
  have HL := Aside0.mk L
  have HK := Aside0.mk hk
  have hbw : base ≤ W2.heap.size := Nat.le_trans R.size HM.out.2.2.2.1
  have HZ := Aside0.mk hi
  have HZ0 := Aside0.mk hz0
  have HZ1 := Aside0.mk hz1
  have HZ2 := Aside0.mk hz2
  have HNB : Aside0 (some hb ≠ (Value.slice a L0.length cap).ownBlock) := ⟨by
    intro h
    rcases R.own.2 with ⟨hv, _⟩ | ⟨g, cap, cur, hv, hbg, hg, _⟩
    · rw [hv] at h; cases h
    · rw [hv] at h
      simp [Value.ownBlock] at h
      subst h
      exact blk_ne hg R.head (by decide) rfl⟩
  generalize hN : L0.length = n at *
  have HN := Aside0.mk hN
  clear R hI L hk hN hi hz0 hz1 hz2
  go_enter Try.func31, Try.ntmps31
  go_wp2
  go_region
  go_wp2
  clear c1 c2 c3 e1 e2 f3 hupd hlook
  have d1a := fun o => cell_alloc (o := o) d1
  go_region_law (refine step_append_at rfl (.tmp 40) (.tmp 48) 82 rfl base 86 i0 _ 3 24 Try.underlying82 HZ.out HZ0.out HZ1.out HZ2.out rfl (by decide) (.slice a n cap) n (flat F L0) rfl (by first | exact own_alloc HM.out.2.1 _ | exact Hp.own_drew (own_alloc HM.out.2.1 _)) ⟨W2.heap.size, 0, none⟩ 1 1 [.int .i64 k, .int .i64 p, .int .i64 (c + 1)] rfl rfl (fun j u h => newrow W2 86 _ j u h) (by intro u hu; simp only [List.mem_cons, List.not_mem_nil, or_false] at hu; rcases hu with rfl | rfl | rfl <;> rfl) (by unfold maxLen; omega) (by omega) (by simp; omega) ?_; intro v' w' hown hgrow hloc; obtain ⟨g2, cap2, rfl⟩ := own_sl_ hown; have HH := Aside0.mk (blk_grown (blk_al HM.out.1) hgrow HNB.out); have q1 : w'.cell? ⟨hb, 1, none⟩ = some (.slice a n cap) := (blk_cell HH.out 1).trans rfl; have q2 : w'.frozen? ⟨hb, 1, none⟩ = false := blk_frozen HH.out 1; have HO := Aside0.mk hown; have HG := Aside0.mk hgrow; have HC := Aside0.mk hloc; clear hown hgrow hloc)
  all_goals
    generalize hW : (World.setCell w' _ _) = W4
    have hn' := HN.out
    subst hn'
    obtain ⟨RR, KK, FR⟩ := push_end HR.out HK.out HM.out HH.out HO.out HG.out HC.out hW
    have HRR := Aside0.mk RR
    have HKK := Aside0.mk KK
    have HFR := Aside0.mk FR
    have HI4 : Aside0 (I W4) := ⟨HL.out.stable _ _ HI.out (fun k hk => kept_low HR.out KK hk)⟩
    have q3 : W4.cell? ⟨hb, 1, none⟩ = some (.slice (some ⟨g2, 0, none⟩) (L0.length + 1) cap2) := (blk_cell RR.head 1).trans rfl
    clear RR KK FR hW HH HO HG HC HM d1 d1a d3 q1 q2
    go_wp2_with fail
    refine (up_calls HL.out hb pb _ (L0 ++ [⟨k, p, c + 1⟩]) (c + 1) W4 L0.length (by simp) (by simp; omega) HRR.out HI4.out).mono ?_
    rintro e w5 ⟨rfl, L1, u1, u2, u3, u4, u5⟩
    have FIN : Aside0 (∃ sv' L1, UpR A (L0 ++ [⟨k, p, c + 1⟩]) L0.length L1 ∧ Rep F w5 base hb pb lv sv' L1 (c + 1) ∧ L1.Perm (L0 ++ [⟨k, p, c + 1⟩]) ∧ I w5 ∧ Kp w w5 (fun k => Mine hb pb (.slice a L0.length cap) k ∨ S k) ∧ (∀ b, sv'.ownBlock = some b → (Value.slice a L0.length cap).ownBlock = some b ∨ w.heap.size ≤ b)) :=
      ⟨_, L1, u1, u2, u3, u4, Kp.then_ (HKK.out.mono (fun k hk => .inl hk)) u5 (fun k hk => by
        rcases hk with (rfl | rfl | hk) | hk
        · exact .inl (.inl (.inl rfl))
        · exact .inl (.inl (.inr (.inl rfl)))
        · rcases HFR.out k hk with h | h
          · exact .inl (.inl (.inr (.inr h)))
          · exact .inr h
        · exact .inl (.inr hk)), HFR.out⟩
    clear u1 u2 u3 u4 u5 HRR HKK HFR HI4
    go_wp2
    go_ret
    exact ⟨rfl, FIN.out⟩
end Go.Proofs.Ytiocnkoogachkaa.Hii
