/- This text walks the heap's functions over keys and ranks of one kind (ii): printed by gen.py. -/
import Derived.Test.YtiocnkoogachkaaHputii
namespace Go.Proofs.Ytiocnkoogachkaa.Hii
open Go.RowKit Go.Proofs.YtiocnkoogachkaaW.PrintWords Go.Proofs.Ytiocnkoogachkaa.Mp Go.Proofs.Ytiocnkoogachkaa.Hp
set_option linter.unusedVariables false
set_option linter.unusedSimpArgs false
theorem swap_mid {w W : World} {base hb pb g cap i j : Nat} {lv : Value} {L : List (It Int Int)} {c : Int} {x y : It Int Int} (R : Rep F w base hb pb lv (.slice (some ⟨g, 0, none⟩) L.length cap) L c) (hx : L[i]? = some x) (hy : L[j]? = some y) (hW : (((((((w.setCell ⟨g, i * 3, none⟩ (.int .i64 y.key)).setCell ⟨g, i * 3 + 1, none⟩ (.int .i64 y.rank)).setCell ⟨g, i * 3 + 2, none⟩ (.int .i64 y.came)).setCell ⟨g, j * 3, none⟩ (.int .i64 x.key)).setCell ⟨g, j * 3 + 1, none⟩ (.int .i64 x.rank)).setCell ⟨g, j * 3 + 2, none⟩ (.int .i64 x.came))).drew = W) :
    ∃ (n1 n2 : Nat) (u : Value) (W2 W3 : World),
      (Instr.mapEntry 81 (.map (some pb)) (.int .i64 y.key)).run Try.prog W.drew = .ok (.tuple #[.int .i64 (j : Int), .int .i64 (n1 : Int)]) W.drew ∧
      (Instr.entryStore 81 (.map (some pb)) (.int .i64 (n1 : Int)) (.int .i64 (i : Int))).run Try.prog W.drew = .ok () W2 ∧
      (Instr.mapEntry 81 (.map (some pb)) (.int .i64 x.key)).run Try.prog W2 = .ok (.tuple #[u, .int .i64 (n2 : Int)]) W2 ∧
      (Instr.entryStore 81 (.map (some pb)) (.int .i64 (n2 : Int)) (.int .i64 (j : Int))).run Try.prog W2 = .ok () W3 ∧
      (W.cell? ⟨hb, 1, none⟩ = some (.slice (some ⟨g, 0, none⟩) L.length cap) ∧ W.cell? ⟨hb, 2, none⟩ = some (.map (some pb)) ∧ W.cell? ⟨g, i * 3, none⟩ = some (.int .i64 y.key) ∧ W.cell? ⟨g, j * 3, none⟩ = some (.int .i64 x.key)) ∧ (W2.cell? ⟨hb, 1, none⟩ = some (.slice (some ⟨g, 0, none⟩) L.length cap) ∧ W2.cell? ⟨hb, 2, none⟩ = some (.map (some pb)) ∧ W2.cell? ⟨g, i * 3, none⟩ = some (.int .i64 y.key) ∧ W2.cell? ⟨g, j * 3, none⟩ = some (.int .i64 x.key)) ∧
      Aside0 (Rep F W3 base hb pb lv (.slice (some ⟨g, 0, none⟩) L.length cap) (swp L i j) c ∧ Kp w W3 (fun k => k = pb ∨ (Value.slice (some ⟨g, 0, none⟩) L.length cap).ownBlock = some k)) := by
  have hi := (List.getElem?_eq_some_iff.1 hx).1
  have hj := (List.getElem?_eq_some_iff.1 hy).1
  have hgh : g ≠ hb := by
    obtain ⟨cur, hg, _⟩ := own_blk? R.own
    exact blk_ne hg R.head (by decide)
  have ow1 : W.ownsRow base F.it F.sz (.slice (some ⟨g, 0, none⟩) L.length cap) L.length (flat F (swp L i j)) := by
    rw [← hW, swp_eq hx hy]
    refine Hp.own_drew ?_
    have q1 := put_item R.own i y hi
    have q2 := put_item q1 j x (by rw [List.length_set]; exact hj)
    exact q2
  have kp1 : Kp w W (fun k => k = g) := by
    rw [← hW]
    refine Kp.drew ?_
    refine Kp.setCell ?_ (by left; rfl) _
    refine Kp.setCell ?_ (by left; rfl) _
    refine Kp.setCell ?_ (by left; rfl) _
    refine Kp.setCell ?_ (by left; rfl) _
    refine Kp.setCell ?_ (by left; rfl) _
    refine Kp.setCell ?_ (by left; rfl) _
    exact Kp.refl w _
  have hpg : pb ≠ g := by
    obtain ⟨cur, hg, _⟩ := own_blk? R.own
    exact R.map.ne_cells hg
  have hph : pb ≠ hb := R.map.ne_cells R.head
  have hd1 := blk_kp R.head kp1 (fun e => hgh e.symm)
  have mp1 := R.map.kept kp1 hpg
  have nd := R.nodup
  obtain ⟨n1, o1, m1', s1', mp2⟩ := mp1.entry (w := W.drew) F.KV Try.underlying81 Try.underlying3 (k := y.key) (by rw [(place_iff nd y.key j).2 ⟨y, hy, rfl⟩]; rfl) (.int .i64 (i : Int))
  obtain ⟨W2, hW2⟩ : ∃ W2, W2 = setB W.drew pb o1 := ⟨_, rfl⟩
  have kp2 : Kp W W2 (fun k => k = pb) := by
    rw [hW2]
    exact Kp.then_ (Kp.drew (Kp.refl W _)) (setB_kept (S := fun k => k = pb) rfl) (fun _ h => .inl h)
  have ow2 : W2.ownsRow base F.it F.sz (.slice (some ⟨g, 0, none⟩) L.length cap) L.length (flat F (swp L i j)) := ow1.kept_ kp2 hpg.symm
  have hd2 := blk_kp hd1 kp2 hph.symm
  rw [← hW2] at mp2 s1'
  obtain ⟨u, hu⟩ : ∃ u, (if x.key = y.key then some (Value.int .i64 (i : Int)) else (place L x.key).map (fun (i : Nat) => Value.int .i64 (i : Int))) = some u := by
    rw [(place_iff nd x.key i).2 ⟨x, hx, rfl⟩]
    split <;> exact ⟨_, rfl⟩
  obtain ⟨n2, o2, m2', s2', mp3⟩ := mp2.entry F.KV Try.underlying81 Try.underlying3 (k := x.key) hu (.int .i64 (j : Int))
  obtain ⟨W3, hW3⟩ : ∃ W3, W3 = setB W2 pb o2 := ⟨_, rfl⟩
  have kp3 : Kp W2 W3 (fun k => k = pb) := by rw [hW3]; exact setB_kept rfl
  rw [← hW3] at mp3 s2'
  have gi : (swp L i j)[i]? = some y := by
    rw [swp_get hx hy]
    by_cases e : i = j
    · subst e
      rw [if_pos rfl, ← hx, ← hy]
    · rw [if_neg e, if_pos rfl]
  have gj : (swp L i j)[j]? = some x := by rw [swp_get hx hy, if_pos rfl]
  refine ⟨n1, n2, u, W2, W3, m1', s1', m2', s2', ⟨(blk_cell hd1 1).trans rfl, (blk_cell hd1 2).trans rfl, own_cell ow1 _ _ ((flat_get F _ i 0 _ gi (by decide)).trans rfl), own_cell ow1 _ _ ((flat_get F _ j 0 _ gj (by decide)).trans rfl)⟩,
    ⟨(blk_cell hd2 1).trans rfl, (blk_cell hd2 2).trans rfl, own_cell ow2 _ _ ((flat_get F _ i 0 _ gi (by decide)).trans rfl), own_cell ow2 _ _ ((flat_get F _ j 0 _ gj (by decide)).trans rfl)⟩, ⟨⟨⟨blk_kp hd2 kp3 hph.symm, ?_, mp3.congr (swp_place hx hy nd), swp_nodup hx hy nd, R.hbase, R.pbase⟩, ?_⟩⟩⟩
  · rw [swp_len]; exact ow2.kept_ kp3 hpg.symm
  · exact Kp.then_ (Kp.then_ (kp1.mono (fun k hk => .inr (by rw [hk]; rfl))) kp2 (fun k hk => .inl (.inl hk))) kp3 (fun k hk => .inl (.inl hk))
end Go.Proofs.Ytiocnkoogachkaa.Hii
