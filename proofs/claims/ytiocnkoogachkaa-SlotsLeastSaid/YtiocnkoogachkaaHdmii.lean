/- This text walks the heap's functions over keys and ranks of one kind (ii): printed by gen.py. -/
import Derived.Test.YtiocnkoogachkaaHw
import Derived.Test.YtiocnkoogachkaaHputii
namespace Go.Proofs.Ytiocnkoogachkaa.Hii
open Go.RowKit Go.Proofs.YtiocnkoogachkaaW.PrintWords Go.Proofs.Ytiocnkoogachkaa.Mp Go.Proofs.Ytiocnkoogachkaa.Hp
set_option linter.unusedVariables false
set_option linter.unusedSimpArgs false
theorem drop_mid {W1 : World} {base hb pb : Nat} {lv sv : Value} {L : List (It Int Int)} {c : Int} {x : It Int Int} {m : Nat} (R : Rep F W1 base hb pb lv sv L c) (hm : L.length = m + 1) (hx : L[m]? = some x) :
    ∃ W2, (∀ ty, (Builtin.delete_ #[81, 3] ty #[.map (some pb), .int .i64 x.key]).run Try.prog W1 = .ok (.tuple #[]) W2) ∧
      Aside0 (W2.heap[hb]? = some (.cells #[lv, sv, .map (some pb), .int .i64 c] 84 (0, 0)) ∧ W2.ownsRow base 86 3 sv L.length (flat F L) ∧ MapAt W2 pb F.d F.kv (fun k => (place L.dropLast k).map (fun (i : Nat) => Value.int .i64 (i : Int))) ∧ Kp W1 W2 (fun k => k = pb)) := by
  obtain ⟨o, hrun, mp⟩ := R.map.drop F.KV Try.underlying81 Try.underlying3 x.key
  have kp : Kp W1 (setB W1 pb o) (fun k => k = pb) := setB_kept rfl
  refine ⟨_, hrun, ⟨blk_kp R.head kp (R.map.ne_cells R.head).symm, ?_, mp.congr (place_dropLast R.nodup (by rw [hm, Nat.add_sub_cancel]; exact hx)), kp⟩⟩
  obtain ⟨g, cap, rfl⟩ := R.slice (by omega)
  obtain ⟨cur, hg, _⟩ := own_blk? R.own
  exact R.own.kept_ kp (fun h => R.map.ne_cells hg h.symm)
theorem drop_clear (W : World) (g m cap : Nat) (ty : TypeId) {v0 : Value} (h0 : W.cell? ⟨g, m * 3, none⟩ = some v0) {v1 : Value} (h1 : W.cell? ⟨g, m * 3 + 1, none⟩ = some v1) {v2 : Value} (h2 : W.cell? ⟨g, m * 3 + 2, none⟩ = some v2) (f0 : W.frozen? ⟨g, m * 3, none⟩ = false) (f1 : W.frozen? ⟨g, m * 3 + 1, none⟩ = false) (f2 : W.frozen? ⟨g, m * 3 + 2, none⟩ = false) :
    (Builtin.clear_ #[82] ty #[.slice (some ⟨g, m * 3, none⟩) 1 cap]).run Try.prog W = .ok (.tuple #[]) ((((W.setCell ⟨g, m * 3, none⟩ (.int .i64 0)).setCell ⟨g, m * 3 + 1, none⟩ (.int .i64 0)).setCell ⟨g, m * 3 + 2, none⟩ (.int .i64 0))) := by
  have hz : ∀ w, (zeroValue 86).run Try.prog w = .ok (.agg #[.int .i64 0, .int .i64 0, .int .i64 0]) w := fun w => by kernel_rfl
  have hu := Try.underlying82
  have hzc : (Builtin.zeroCells #[.int .i64 0, .int .i64 0, .int .i64 0] 1).toList = [.int .i64 0, .int .i64 0, .int .i64 0] := by first | (simp [Builtin.zeroCells]; done) | kernel_rfl
  unfold Builtin.clear_
  go_simp
theorem drop_end {W1 W2 W4 : World} {base hb pb g cap : Nat} {lv : Value} {L : List (It Int Int)} {c : Int} {m : Nat} (R : Rep F W1 base hb pb lv (.slice (some ⟨g, 0, none⟩) (m + 1) cap) L c) (hm : L.length = m + 1)
    (HM : W2.heap[hb]? = some (.cells #[lv, (.slice (some ⟨g, 0, none⟩) (m + 1) cap), .map (some pb), .int .i64 c] 84 (0, 0)) ∧ W2.ownsRow base 86 3 (.slice (some ⟨g, 0, none⟩) (m + 1) cap) L.length (flat F L) ∧ MapAt W2 pb F.d F.kv (fun k => (place L.dropLast k).map (fun (i : Nat) => Value.int .i64 (i : Int))) ∧ Kp W1 W2 (fun k => k = pb))
    (hW : ((((W2.setCell ⟨g, m * 3, none⟩ (.int .i64 0)).setCell ⟨g, m * 3 + 1, none⟩ (.int .i64 0)).setCell ⟨g, m * 3 + 2, none⟩ (.int .i64 0))).setCell ⟨hb, 1, none⟩ (.slice (some ⟨g, 0, none⟩) m cap) = W4) :
    Rep F W4 base hb pb lv (.slice (some ⟨g, 0, none⟩) m cap) L.dropLast c ∧ Kp W1 W4 (Mine hb pb (.slice (some ⟨g, 0, none⟩) (m + 1) cap)) := by
  obtain ⟨m1, m2, m3, m4⟩ := HM
  rw [hm] at m2
  obtain ⟨cur0, hg0, _⟩ := own_blk? m2
  have hgh : g ≠ hb := blk_ne hg0 m1 (by decide)
  have hpg : pb ≠ g := m3.ne_cells hg0
  have hph : pb ≠ hb := m3.ne_cells m1
  have kA : Kp W2 ((((W2.setCell ⟨g, m * 3, none⟩ (.int .i64 0)).setCell ⟨g, m * 3 + 1, none⟩ (.int .i64 0)).setCell ⟨g, m * 3 + 2, none⟩ (.int .i64 0))) (fun k => k = g) := by
    refine Kp.setCell ?_ (by left; rfl) _
    refine Kp.setCell ?_ (by left; rfl) _
    refine Kp.setCell ?_ (by left; rfl) _
    exact Kp.refl _ _
  have h0 := own_set m2 (m * 3) (.int .i64 0)
  have h1 := own_set h0 (m * 3 + 1) (.int .i64 0)
  have h2 := own_set h1 (m * 3 + 2) (.int .i64 0)
  have hd := blk_kp m1 kA (fun e => hgh e.symm)
  have kB : Kp ((((W2.setCell ⟨g, m * 3, none⟩ (.int .i64 0)).setCell ⟨g, m * 3 + 1, none⟩ (.int .i64 0)).setCell ⟨g, m * 3 + 2, none⟩ (.int .i64 0))) W4 (fun k => k = hb) := by
    rw [← hW]
    refine Kp.setCell ?_ (by left; rfl) _
    exact Kp.refl _ _
  have h9 := h2.kept_ kB hgh
  obtain ⟨cur, hg, hb0, hc1, hc2, hc3, hc4⟩ := own_blk? h9
  refine ⟨⟨?_, ⟨?_, .inr ⟨g, cap, cur, ?_, hb0, hg, by rw [List.length_dropLast]; omega, hc2, hc3, ?_⟩⟩, (m3.kept kA hpg).kept kB hph, ?_, R.hbase, R.pbase⟩, ?_⟩
  · rw [← hW]; exact blk_put hd 1 _ rfl
  · rw [flat_len]
  · rw [List.length_dropLast, hm, Nat.add_sub_cancel]
  · rw [flat_dropLast, List.length_dropLast]
    show cur.toList.take ((L.length - 1) * 3) = (flat F L).take ((L.length - 1) * 3)
    have e1 : ((m + 1) * 3) = m * 3 + 3 := by rw [Nat.add_mul, Nat.one_mul]
    have e2 : (L.length - 1) * 3 = m * 3 := by rw [hm]; rfl
    rw [e2]
    have e3 : cur.toList.take (m * 3) = (cur.toList.take ((m + 1) * 3)).take (m * 3) := by rw [List.take_take, Nat.min_eq_left (by omega)]
    rw [e3, hc4, List.take_set_of_le (by omega), List.take_set_of_le (by omega), List.take_set_of_le (by omega)]
  · rw [keys_dropLast]; exact R.nodup.sublist (List.dropLast_sublist _)
  · exact Kp.then_ (Kp.then_ (m4.mono (fun k hk => .inr (.inl hk))) kA (fun k hk => .inl (.inr (.inr (by rw [hk]; rfl))))) kB (fun k hk => .inl (.inl hk))
end Go.Proofs.Ytiocnkoogachkaa.Hii
