/- This text says how the heap and the list of keys lie at each point of the law over texts. -/
import Derived.Test.YtiblnccbeefdkaaAw
import Derived.Test.YtiblnccbeefdkaaHpsa
import Derived.Test.YtiblnccbeefdkaaHksa
import Derived.Test.YtiblnccbeefdkaaHosa
import Derived.ChangeKeysEq
namespace Go.Proofs.Ytiblnccbeefdkaa.Lx
open Go.RowKit Go.Proofs.YtiblnccbeefdkaaW.PrintWords Go.Proofs.Ytiblnccbeefdkaa.Mp Go.Proofs.Ytiblnccbeefdkaa.Hp Go.Proofs.Ytiblnccbeefdkaa.Aw
set_option linter.unusedVariables false
abbrev Its := List (It ByteArray (Int × Int))
abbrev LV : Value := .func (.func 44) #[] #[]
/-- The heap 'L', of all 'M' that came the first 't' gone, and the list 'C' of keys, at a point of the law. -/
structure Tx (w wr : World) (hb pb : Nat) (sv : Value) (L M : Its) (t : Nat) (cv : Value) (C : List ByteArray) : Prop where
  rep : Rep Hsa.F wr w.heap.size hb pb LV sv L (M.length : Int)
  perm : L.Perm (M.drop t)
  heap : Heap (L.map flat0)
  came : Came M
  row : wr.ownsRow w.heap.size 9 1 cv C.length (C.map Value.string)
  sep : ∀ b, cv.ownBlock = some b → ¬ Mine hb pb sv b
  own : ∀ b, sv.ownBlock = some b → w.heap.size ≤ b
  kept : Kp w wr (fun _ => False)
  size2 : ∀ x, x ∈ M → x.rank.2 = (x.key.size : Int)
section
variable {w wr w2 : World} {hb pb t : Nat} {sv sv2 cv cv2 : Value} {L L2 M : Its} {C : List ByteArray}
theorem tx_new (R : Rep Hsa.F wr w.heap.size hb pb LV (.slice none 0 0) [] 0) (K : Kp w wr (fun _ => False)) : Tx w wr hb pb (.slice none 0 0) [] [] 0 (.slice none 0 0) [] :=
  ⟨R, List.Perm.refl _, heap_nil, Came.nil, ⟨rfl, .inl ⟨rfl, rfl⟩⟩, fun b h => (by cases h), fun b h => (by cases h), K, fun x h => (by cases h)⟩
theorem row_kp' {W W2 : World} {base n s : Nat} {v : Value} {e : TypeId} {xs : List Value} {S : Nat → Prop} (h : W.ownsRow base e s v n xs) (hk : Kp W W2 S) (hg : ∀ b, v.ownBlock = some b → ¬ S b) : W2.ownsRow base e s v n xs := by
  rcases h.2 with ⟨hv, hn⟩ | ⟨g, cap, cur, hv, hrest⟩
  · exact ⟨h.1, .inl ⟨hv, hn⟩⟩
  · subst hv
    exact h.kept_ hk (hg g rfl)
theorem Tx.stay (h : Tx w wr hb pb sv L M t cv C) (K : Kp wr w2 (fun _ => False)) : Tx w w2 hb pb sv L M t cv C :=
  ⟨h.rep.kept K (fun _ h => h.elim), h.perm, h.heap, h.came, row_kp' h.row K (fun _ _ h => h), h.sep, h.own, h.kept.then_ K (fun _ h => h.elim), h.size2⟩
theorem Tx.push (h : Tx w wr hb pb sv L M 0 cv C) {k : ByteArray} {p : Int × Int} (hp : p.2 = (k.size : Int)) (u : UpR NoLess (L ++ [⟨k, p, (M.length : Int) + 1⟩]) L.length L2) (R : Rep Hsa.F w2 w.heap.size hb pb LV sv2 L2 ((M.length : Int) + 1)) (P : L2.Perm (L ++ [⟨k, p, (M.length : Int) + 1⟩])) (K : Kp wr w2 (fun k => Mine hb pb sv k ∨ False)) (F : ∀ b, sv2.ownBlock = some b → sv.ownBlock = some b ∨ wr.heap.size ≤ b) :
    Tx w w2 hb pb sv2 L2 (M ++ [⟨k, p, (M.length : Int) + 1⟩]) 0 cv C := by
  refine ⟨?_, ?_, ?_, h.came.snoc rfl, row_kp' h.row K (fun b hb => fun hm => h.sep b hb (hm.elim id False.elim)), fun b hb hm => ?_, fun b hb => (F b hb).elim (h.own b) (Nat.le_trans h.kept.size), kept_new h.kept K h.rep.hbase h.rep.pbase h.own, fun x hx => ?_⟩
  · rw [List.length_append, List.length_singleton, Int.natCast_add]
    exact R
  · rw [List.drop_zero]
    exact P.trans (List.Perm.append_right _ (by have := h.perm; rwa [List.drop_zero] at this))
  · have h1 := u.flat
    rw [List.map_append] at h1
    have h2 := push_heap h.heap (x := flat0 ⟨k, p, (M.length : Int) + 1⟩) (by rw [List.length_map]; exact h1)
    exact h2
  · rcases hm with hm | hm | hm
    · exact h.sep b hb (.inl hm)
    · exact h.sep b hb (.inr (.inl hm))
    · rcases F b hm with hm | hm
      · exact h.sep b hb (.inr (.inr hm))
      · have := own_lt h.row b hb
        omega
  · rcases List.mem_append.1 hx with hx | hx
    · exact h.size2 x hx
    · rw [List.mem_singleton] at hx
      rw [hx]
      exact hp
theorem Tx.app (h : Tx w wr hb pb sv L M t cv C) {k : ByteArray} (hown : w2.ownsRow w.heap.size 9 1 cv2 (C ++ [k]).length ((C ++ [k]).map Value.string)) (hg : wr.grownBy w2 cv.ownBlock) (hat : cv2.ownBlock = cv.ownBlock ∨ ∃ b, cv2.ownBlock = some b ∧ wr.heap.size ≤ b) :
    Tx w w2 hb pb sv L M t cv2 (C ++ [k]) := by
  have K : Kp wr w2 (fun q => cv.ownBlock = some q) := ⟨hg.size, fun k hk hn => hg.block k hk (fun e => hn e.symm), hg.os, hg.tape, hg.output⟩
  have hlt : ∀ b, Mine hb pb sv b → b < wr.heap.size := fun b hb => by
    rcases hb with h1 | h1 | h1
    · rw [h1]; exact blk_lt h.rep.head
    · rw [h1]; exact h.rep.map.lt
    · exact own_lt h.rep.own b h1
  refine ⟨h.rep.kept K (fun b hb hm => h.sep b hb hm), h.perm, h.heap, h.came, hown, fun b hb hm => ?_, h.own, h.kept.then_ K (fun b hb => .inr (own_base h.row b hb)), h.size2⟩
  rcases hat with e | ⟨b2, e, hb2⟩
  · exact h.sep b (by rw [← e]; exact hb) hm
  · rw [e] at hb
    cases hb
    have := hlt _ hm
    omega
theorem Tx.head (h : Tx w wr hb pb sv L M t cv C) (ht : t < M.length) : ∃ x, L[0]? = some x ∧ M[t]? = some x := h.came.first h.perm h.heap ht
theorem Tx.pop (h : Tx w wr hb pb sv L M t cv C) {x : It ByteArray (Int × Int)} (hM : M[t]? = some x) (h0 : L[0]? = some x) (D : DropR NoLess L 0 L2) (R : Rep Hsa.F w2 w.heap.size hb pb LV sv2 L2 (M.length : Int)) (K : Kp wr w2 (fun k => Mine hb pb sv k ∨ False)) (O : sv2.ownBlock = sv.ownBlock) :
    Tx w w2 hb pb sv2 L2 M (t + 1) cv C := by
  refine ⟨R, Came.next h.perm hM (D.permG h0), ?_, h.came, row_kp' h.row K (fun b hb => fun hm => h.sep b hb (hm.elim id False.elim)), fun b hb hm => h.sep b hb (by unfold Mine at hm ⊢; rwa [O] at hm), fun b hb => h.own b (by rw [← O]; exact hb), kept_new h.kept K h.rep.hbase h.rep.pbase h.own, h.size2⟩
  exact D.flat.heap (by rw [List.getElem?_map, h0]; rfl) h.heap
theorem Tx.len (h : Tx w wr hb pb sv L M t cv C) : L.length = M.length - t := by rw [h.perm.length_eq, List.length_drop]
theorem Tx.keys0 (h : Tx w wr hb pb sv L M 0 cv C) (k : ByteArray) : k ∈ keys L ↔ k ∈ keys M := by
  have h1 := h.perm
  rw [List.drop_zero] at h1
  exact (h1.map _).mem_iff
theorem Tx.slice (h : Tx w wr hb pb sv L M t cv C) : ∃ a cap, cv = .slice a C.length cap := by
  rcases h.row.2 with ⟨hv, e⟩ | ⟨g, cap, _, e, _⟩
  · exact ⟨none, 0, by rw [hv, e]⟩
  · exact ⟨_, _, e⟩
theorem Tx.at_ {a : Option Addr} {cap : Nat} (h : Tx w wr hb pb sv L M t (.slice a C.length cap) C) {j : Nat} {k : ByteArray} (hj : C[j]? = some k) : ∃ g, a = some ⟨g, 0, none⟩ ∧ wr.cell? ⟨g, j, none⟩ = some (.string k) := by
  have hlt := (List.getElem?_eq_some_iff.1 hj).1
  rcases h.row.2 with ⟨hv, e⟩ | ⟨g, cap', _, e, _⟩
  · omega
  · injection e with e1 e2 e3
    subst e1 e3
    exact ⟨g, rfl, own_cell h.row j _ (by rw [List.getElem?_map, hj]; rfl)⟩
theorem key_at {L : Its} {k : ByteArray} (h : k ∈ keys L) : ∃ (i : Nat) (x : It ByteArray (Int × Int)), L[i]? = some x ∧ x.key = k := by
  obtain ⟨x, hx, rfl⟩ := List.mem_map.1 h
  obtain ⟨i, hi⟩ := List.getElem?_of_mem hx
  exact ⟨i, x, hi, rfl⟩
theorem Tx.c_push_in (h : Tx w wr hb pb sv L M 0 cv C) {k : ByteArray} (hk : k ∈ keys M) (p : Int × Int) :
    Calls Try.prog 22 #[.pointer (some ⟨hb, 0, none⟩), .string k, .agg #[.int .i64 p.1, .int .i64 p.2]] wr fun e w' => e = .returned (.bool false) ∧ Tx w w' hb pb sv L M 0 cv C := by
  obtain ⟨i, x, hx, rfl⟩ := key_at ((h.keys0 k).2 hk)
  exact (Hsa.push_in h.rep hx p).mono fun e w' q => ⟨q.1, h.stay q.2⟩
theorem Tx.c_push (h : Tx w wr hb pb sv L M 0 cv C) {k : ByteArray} (hk : k ∉ keys M) (p : Int × Int) (hp : p.2 = (k.size : Int)) (hn : M.length < 1048576) :
    Calls Try.prog 22 #[.pointer (some ⟨hb, 0, none⟩), .string k, .agg #[.int .i64 p.1, .int .i64 p.2]] wr fun e w' => e = .returned (.bool true) ∧ ∃ sv2 L2, Tx w w' hb pb sv2 L2 (M ++ [⟨k, p, (M.length : Int) + 1⟩]) 0 cv C := by
  have hl := h.len
  refine (Hsa.push_calls (Hsa.ok44 w.heap.size) hb pb sv L (M.length : Int) wr k p (by omega) (by omega) (by omega) (fun hm => hk ((h.keys0 k).1 hm)) h.rep trivial).mono ?_
  rintro e w' ⟨rfl, sv2, L2, u, R, P, _, K, F⟩
  exact ⟨rfl, sv2, L2, h.push hp u R P K F⟩
theorem Tx.c_lower (h : Tx w wr hb pb sv L M 0 cv C) {k : ByteArray} (hk : k ∈ keys M) (p : Int × Int) :
    Calls Try.prog 23 #[.pointer (some ⟨hb, 0, none⟩), .string k, .agg #[.int .i64 p.1, .int .i64 p.2]] wr fun e w' => e = .returned (.bool false) ∧ Tx w w' hb pb sv L M 0 cv C := by
  obtain ⟨i, x, hx, rfl⟩ := key_at ((h.keys0 k).2 hk)
  exact (Hsa.lower_no (Hsa.ok44 w.heap.size) h.rep hx p).mono fun e w' q => ⟨q.1, h.stay q.2⟩
theorem Tx.c_get (h : Tx w wr hb pb sv L M t cv C) {x : It ByteArray (Int × Int)} (hx : M[t]? = some x) :
    Calls Try.prog 24 #[.pointer (some ⟨hb, 0, none⟩), .string x.key] wr fun e w' => e = .returned (.tuple #[.agg #[.int .i64 x.rank.1, .int .i64 x.rank.2], .bool true]) ∧ Tx w w' hb pb sv L M t cv C ∧ Kp wr w' (fun _ => False) := by
  obtain ⟨y, h0, hy⟩ := h.head (List.getElem?_eq_some_iff.1 hx).1
  rw [hx] at hy
  cases hy
  exact (Hsa.get_in h.rep h0).mono fun e w' q => ⟨q.1, h.stay q.2, q.2⟩
theorem Tx.c_pop (h : Tx w wr hb pb sv L M t cv C) {x : It ByteArray (Int × Int)} (hx : M[t]? = some x) (hn : M.length ≤ 1048576) :
    Calls Try.prog 25 #[.pointer (some ⟨hb, 0, none⟩)] wr fun e w' => e = .returned (.tuple #[.string x.key, .agg #[.int .i64 x.rank.1, .int .i64 x.rank.2], .bool true]) ∧ ∃ sv2 L2, Tx w w' hb pb sv2 L2 M (t + 1) cv C ∧ Kp wr w' (fun k => Mine hb pb sv k ∨ False) ∧ sv2.ownBlock = sv.ownBlock := by
  obtain ⟨y, h0, hy⟩ := h.head (List.getElem?_eq_some_iff.1 hx).1
  rw [hx] at hy
  cases hy
  have hl := h.len
  refine (Hsa.pop_cons (Hsa.ok44 w.heap.size) h.rep trivial h0 (by omega)).mono ?_
  rintro e w' ⟨rfl, sv2, L2, D, R, _, K, O⟩
  exact ⟨rfl, sv2, L2, h.pop hx h0 D R K O, K, O⟩
theorem txt_eq (x y : ByteArray) : (x.toList == y.toList) = true ↔ x = y := by
  rw [beq_iff_eq]
  constructor
  · intro h
    rw [ByteArray.toList_eq, ByteArray.toList_eq] at h
    cases x; cases y
    simp only [ByteArray.mk.injEq]
    exact Array.toList_inj.1 h
  · rintro rfl; rfl
theorem in_step {C : List ByteArray} {s k : ByteArray} {j : Nat} {b : Bool} (hk : C[j]? = some k) (h : b = true ↔ s ∈ C.take j) : (b = true ∨ k = s) ↔ s ∈ C.take (j + 1) := by
  rw [List.take_add_one, hk, List.mem_append, ← h]
  simp [eq_comm]
theorem dr (w : World) : Kp w w.drew (fun _ => False) := (Kp.refl _ _).drew
end
theorem eq48 (a b : Int) (w : World) : (Op.equalIn 10000 48 (.agg #[.int .i64 a, .int .i64 b]) (.agg #[.int .i64 a, .int .i64 b])).run Try.prog w = .ok true w := by
  obtain ⟨i, hi, _⟩ := Option.map_eq_some_iff.1 (show (Try.prog.info? 3).map (fun i => (i.zero, i.size, i.bytes)) = some (some (Value.int .i64 0), 1, 8) by kernel_rfl)
  rw [run_equalIn_array w 9999 (e := 3) (n := 2) (i := i) _ _ Try.underlying48 hi]
  have p0 : (part 3 #[Value.int .i64 a, .int .i64 b] (0 * Try.prog.cellsOf 3)).run Try.prog w = .ok (.int .i64 a) w := by kernel_rfl
  have p1 : (part 3 #[Value.int .i64 a, .int .i64 b] (1 * Try.prog.cellsOf 3)).run Try.prog w = .ok (.int .i64 b) w := by kernel_rfl
  have e0 := run_equalIn_int (P := Try.prog) w 9998 3 .i64 .i64 a a Try.underlying3
  have e1 := run_equalIn_int (P := Try.prog) w 9998 3 .i64 .i64 b b Try.underlying3
  simp only [show List.range 2 = [0, 1] from rfl, Op.eqItems, Sem.run_bind, p0, e0, p1, e1, Result.andThen_ok, beq_self_eq_true, Bool.not_true, Bool.false_eq_true, if_false, Sem.run_pure]
end Go.Proofs.Ytiblnccbeefdkaa.Lx
