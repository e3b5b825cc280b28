/- This text walks the heap's functions over keys and ranks of one kind (ii): printed by gen.py. -/
import Derived.Test.YtiocnkoogachkaaHw
import Derived.Test.YtiocnkoogachkaaHputii
namespace Go.Proofs.Ytiocnkoogachkaa.Hii
open Go.RowKit Go.Proofs.YtiocnkoogachkaaW.PrintWords Go.Proofs.Ytiocnkoogachkaa.Mp Go.Proofs.Ytiocnkoogachkaa.Hp
set_option linter.unusedVariables false
set_option linter.unusedSimpArgs false
theorem push_mid {w : World} {base hb pb : Nat} {lv sv : Value} {L : List (It Int Int)} {c : Int} {x : It Int Int} (R : Rep F w base hb pb lv sv L c) (hx : x.key ∉ keys L) (cc : Int) :
    ∃ W2, (Instr.mapUpdate 81 (.map (some pb)) (.int .i64 x.key) (.int .i64 (L.length : Int))).run Try.prog (w.setCell ⟨hb, 3, none⟩ (.int .i64 cc)).drew = .ok () W2 ∧
      Aside0 (W2.heap[hb]? = some (.cells #[lv, sv, .map (some pb), .int .i64 cc] 84 (0, 0)) ∧ W2.ownsRow base 86 3 sv L.length (flat F L) ∧ MapAt W2 pb F.d F.kv (fun k => (place (L ++ [x]) k).map (fun (i : Nat) => Value.int .i64 (i : Int))) ∧ Kp w W2 (Mine hb pb sv)) := by
  have hph : pb ≠ hb := R.map.ne_cells R.head
  have kp1 : Kp w (w.setCell ⟨hb, 3, none⟩ (.int .i64 cc)).drew (fun k => k = hb) := by
    refine Kp.drew ?_
    refine Kp.setCell ?_ (by left; rfl) _
    exact Kp.refl w _
  have hd1 : (w.setCell ⟨hb, 3, none⟩ (.int .i64 cc)).drew.heap[hb]? = some (.cells #[lv, sv, .map (some pb), .int .i64 cc] 84 (0, 0)) := blk_put R.head 3 _ rfl
  have mp1 := R.map.kept kp1 hph
  obtain ⟨o, hrun, mp2⟩ := mp1.upd F.KV Try.underlying81 Try.underlying3 x.key (.int .i64 (L.length : Int))
  have kp2 : Kp (w.setCell ⟨hb, 3, none⟩ (.int .i64 cc)).drew (setB (w.setCell ⟨hb, 3, none⟩ (.int .i64 cc)).drew pb o) (fun k => k = pb) := setB_kept rfl
  refine ⟨_, hrun, ⟨blk_kp hd1 kp2 hph.symm, ?_, mp2.congr (place_app hx), Kp.then_ (kp1.mono (fun k hk => .inl hk)) kp2 (fun k hk => .inl (.inr (.inl hk)))⟩⟩
  rcases R.own.2 with ⟨hv, hn⟩ | ⟨g, cap, cur, rfl, hbg, hg, _⟩
  · exact ⟨R.own.1, .inl ⟨hv, hn⟩⟩
  · exact (R.own.kept_ kp1 (fun h => blk_ne hg R.head (by decide) h)).kept_ kp2 (fun h => R.map.ne_cells hg h.symm)
theorem push_end {w W2 w3 W4 : World} {base hb pb g2 cap2 : Nat} {lv sv : Value} {L : List (It Int Int)} {c cc : Int} {x : It Int Int} {o : Obj} (R : Rep F w base hb pb lv sv L c) (hx : x.key ∉ keys L)
    (HM : W2.heap[hb]? = some (.cells #[lv, sv, .map (some pb), .int .i64 cc] 84 (0, 0)) ∧ W2.ownsRow base 86 3 sv L.length (flat F L) ∧ MapAt W2 pb F.d F.kv (fun k => (place (L ++ [x]) k).map (fun (i : Nat) => Value.int .i64 (i : Int))) ∧ Kp w W2 (Mine hb pb sv))
    (HH : w3.heap[hb]? = some (.cells #[lv, sv, .map (some pb), .int .i64 cc] 84 (0, 0))) (hown : w3.ownsRow base 86 3 (.slice (some ⟨g2, 0, none⟩) (L.length + 1) cap2) (L.length + 1) (flat F L ++ F.f x))
    (hgrow : ((W2.alloc o).drew).grownBy w3 sv.ownBlock) (hloc : (Value.slice (some ⟨g2, 0, none⟩) (L.length + 1) cap2).ownBlock = sv.ownBlock ∨ (Value.slice (some ⟨g2, 0, none⟩) (L.length + 1) cap2).ownBlock = some ((W2.alloc o).drew).heap.size)
    (hW : w3.setCell ⟨hb, 1, none⟩ (.slice (some ⟨g2, 0, none⟩) (L.length + 1) cap2) = W4) :
    Rep F W4 base hb pb lv (.slice (some ⟨g2, 0, none⟩) (L.length + 1) cap2) (L ++ [x]) cc ∧ Kp w W4 (Mine hb pb sv) ∧ ∀ b, (Value.slice (some ⟨g2, 0, none⟩) (L.length + 1) cap2).ownBlock = some b → sv.ownBlock = some b ∨ w.heap.size ≤ b := by
  obtain ⟨m1, m2, m3, m4⟩ := HM
  obtain ⟨cur, hg2, _⟩ := own_blk? hown
  have hne : g2 ≠ hb := blk_ne hg2 HH (by decide)
  have kA : Kp W2 ((W2.alloc o).drew) (fun _ => False) := ((Kp.refl W2 _).alloc o).drew
  have kB : Kp ((W2.alloc o).drew) w3 (fun k => sv.ownBlock = some k) := ⟨hgrow.size, fun k hk hn => hgrow.block k hk (fun e => hn e.symm), hgrow.os, hgrow.tape, hgrow.output⟩
  have kC : Kp w3 W4 (fun k => k = hb) := by
    rw [← hW]
    refine Kp.setCell ?_ (by left; rfl) _
    exact Kp.refl _ _
  have hsz : w.heap.size ≤ ((W2.alloc o).drew).heap.size := Nat.le_trans m4.1 kA.1
  have hpo : ¬ sv.ownBlock = some pb := by
    intro h
    rcases m2.2 with ⟨hv, _⟩ | ⟨g, cap, cur, hv, _, hg, _⟩
    · rw [hv] at h; cases h
    · rw [hv] at h
      simp [Value.ownBlock] at h
      subst h
      exact m3.ne_cells hg rfl
  have hph : pb ≠ hb := m3.ne_cells m1
  refine ⟨⟨?_, ?_, ((m3.kept kA (fun h => h)).kept kB hpo).kept kC hph, ?_, R.hbase, R.pbase⟩, ?_, ?_⟩
  · rw [← hW]; exact blk_put HH 1 _ rfl
  · rw [List.length_append, flat_app]
    have h := hown.kept_ kC hne
    have e : flat F L ++ F.f x = flat F L ++ flat F [x] := by rw [flat_cons, flat_nil, List.append_nil]
    exact own_app h e
  · rw [keys_app, List.nodup_append]
    exact ⟨R.nodup, by simp, fun a ha b hb => by simp only [List.mem_singleton] at hb; subst hb; intro e; subst e; exact hx ha⟩
  · refine Kp.then_ (Kp.then_ (Kp.then_ m4 kA (fun _ h => h.elim)) kB (fun k hk => .inl (.inr (.inr hk)))) kC (fun k hk => .inl (.inl hk))
  · intro b hb
    rcases hloc with h | h
    · left; rw [← h]; exact hb
    · right; rw [h] at hb; cases hb; exact hsz
theorem info_it : (Try.prog.info? 86).map (fun i => (i.zero, i.size, i.bytes)) = some (some (.agg #[.int .i64 0, .int .i64 0, .int .i64 0]), 3, 24) := by kernel_rfl
end Go.Proofs.Ytiocnkoogachkaa.Hii
