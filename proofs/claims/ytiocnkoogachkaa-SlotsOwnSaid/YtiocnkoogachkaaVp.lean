/- This text lays a table and the reference's list beside each other, and says what each call of both answers. -/
import Derived.Test.YtiocnkoogachkaaUs
import Derived.Deep.DeepCutAuto
import Derived.Deep.RegionHeld3
import Derived.Deep.DeepMust
namespace Go.Proofs.Ytiocnkoogachkaa.Vp
open Go.RowKit Go.Proofs.YtiocnkoogachkaaW.PrintWords Go.Proofs.Ytiocnkoogachkaa.Mp Go.Proofs.Ytiocnkoogachkaa.Hp Go.Proofs.Ytiocnkoogachkaa.Tg Go.Proofs.Ytiocnkoogachkaa.Rs Go.Proofs.Ytiocnkoogachkaa.PSlotsPlays Go.Proofs.Ytiocnkoogachkaa.Us
set_option linter.unusedVariables false
/-- The reference's rows made since w0. -/
def RB (w0 w : World) (k : Nat) : Prop := w0.heap.size ≤ k ∧ ∃ cells, w.heap[k]? = some (.cells cells 47 (0, 0))
section
variable {w0 w w2 : World} {tb hb pb : Nat} {fv : Value} {m b : Nat} {Ps : List (It Int Bool)} {held : Int} {S : Nat → Prop} {v : Value} {M : List S47}
theorem st_types (h : St Ti.PF w0 w tb hb pb fv Ti.Z m Ps b held S) {k : Nat} (hk : S k) : ¬ RB w0 w k := by
  obtain ⟨sv, pv, L, c, q1, q2, q3, q4, rfl⟩ := h.ex
  rintro ⟨_, cells, hc⟩
  rcases hk with rfl | (rfl | rfl | hk) | hk
  · exact blk_ne q1.head hc (by decide) rfl
  · exact blk_ne q1.heap.head hc (by decide) rfl
  · exact q1.heap.map.ne_cells hc rfl
  · rcases q1.heap.own.2 with ⟨hv, _⟩ | ⟨g, cap, cur, hv, _, hg, _⟩
    · rw [hv] at hk; cases hk
    · rw [hv] at hk
      cases hk
      exact blk_ne hg hc (by decide) rfl
  · rcases q1.row.2 with ⟨hv, _⟩ | ⟨g, cap, cur, hv, _, hg, _⟩
    · rw [hv] at hk; cases hk
    · rw [hv] at hk
      cases hk
      exact blk_ne hg hc (by decide) rfl
theorem st_b {b2 : Nat} (h : St Ti.PF w0 w tb hb pb fv Ti.Z m Ps b held S) (hbb : b ≤ b2) : St Ti.PF w0 w tb hb pb fv Ti.Z m Ps b2 held S := by
  obtain ⟨sv, pv, L, c, q1, q2, q3, q4, rfl⟩ := h.ex
  exact ⟨⟨sv, pv, L, c, q1, q2, q3, by omega, rfl⟩, h.kept, h.small⟩
theorem st_held (h : St Ti.PF w0 w tb hb pb fv Ti.Z m Ps b held S) : held ≤ 65536 ∧ Ps.length ≤ m := by
  obtain ⟨sv, pv, L, c, q1, q2, q3, q4, rfl⟩ := h.ex
  have := q2.held_le.2
  have := h.small
  exact ⟨by omega, q2.le⟩
theorem row_rb (h : Kd.R k47 47 w w0.heap.size (fun _ => True) v M) : Kd.R k47 47 w w0.heap.size (RB w0 w) v M :=
  Kd.R_mono (Kd.R_bound h) (fun k hk => by
    obtain ⟨_, hb, _, q, hq, cells, hc⟩ := hk
    have e : q = 47 := by simpa [Kd.E, k47, Kd.iso, Kd.pair, Kd.int, Kd.scalar] using hq
    subst e
    exact ⟨hb, cells, hc⟩)
theorem kept_of {w w2 : World} {S : Nat → Prop} (h : Kp w w2 S) : Kept w w2 S := ⟨h.size, h.keep⟩
theorem row_kept {S2 : Nat → Prop} (h : Kd.R k47 47 w w0.heap.size (fun _ => True) v M) (K : Kp w w2 S2) (hS : ∀ k, RB w0 w k → ¬ S2 k) : Kd.R k47 47 w2 w0.heap.size (fun _ => True) v M :=
  Kd.R_mono (Kd.R_kept (row_rb h) (kept_of K) hS) (fun _ _ => trivial)
theorem kp_of {S : Nat → Prop} (h0 : Kp w0 w (fun _ => False)) (hb : Below w0.heap.size w0 w2) (hk : Kept w w2 S) : Kp w w2 S := ⟨hk.1, hk.2, hb.os.trans h0.os.symm, hb.tape.trans h0.tape.symm, hb.output.trans h0.output.symm⟩
/-- A table and the reference's list of the same things. -/
structure Pq (w0 w : World) (tb hb pb m : Nat) (Ps : List (It Int Bool)) (b : Nat) (held : Int) (S : Nat → Prop) (v : Value) (M : List S47) : Prop where
  st : St Ti.PF w0 w tb hb pb Ti.LV Ti.Z m Ps b held S
  row : Kd.R k47 47 w w0.heap.size (fun _ => True) v M
  rm : RM Ps M
  len : (M.length : Int) = held
theorem Pq.stay (h : Pq w0 w tb hb pb m Ps b held S v M) (K : Kp w w2 (fun _ => False)) : Pq w0 w2 tb hb pb m Ps b held S v M := ⟨st_stay h.st K, row_kept h.row K (fun _ _ h => h), h.rm, h.len⟩
theorem Pq.small (h : Pq w0 w tb hb pb m Ps b held S v M) : M.length < 1048576 := by have := (st_held h.st).1; have := h.len; omega
/-- What a call of both may leave: the table writes first or last. -/
structure Plan (w0 : World) (tb hb pb m : Nat) (Ps Ps2 : List (It Int Bool)) (b : Nat) (held held2 : Int) (M2 : List S47) : Prop where
  rm : RM Ps2 M2
  len : (M2.length : Int) = held2
theorem inRange (Ps : List (It Int Bool)) (i : Int) : (∃ (j : Nat) (p : It Int Bool), i = (j : Int) + 1 ∧ Ps[j]? = some p) ∨ (i < 1 ∨ (Ps.length : Int) < i) := by
  by_cases h : i < 1 ∨ (Ps.length : Int) < i
  · exact .inr h
  · have hj : (i - 1).toNat < Ps.length := by omega
    exact .inl ⟨(i - 1).toNat, _, by omega, List.getElem?_eq_getElem hj⟩
theorem fi_out (h : RM Ps M) {i : Int} (hi : i < 1 ∨ (Ps.length : Int) < i) : fi M i = -1 := h.free (fun j p e hp => by have := (List.getElem?_eq_some_iff.1 hp).1; omega)
theorem fi_no (h : RM Ps M) {j : Nat} (hf : ∀ p, Ps[j]? = some p → p.rank = false) : fi M ((j : Int) + 1) = -1 := h.free (fun q y e hy => hf y (by rw [← hy, show q = j by omega]))
theorem fi_free (h : RM Ps M) {j : Nat} {p : It Int Bool} (hp : Ps[j]? = some p) (hr : p.rank = false) : fi M ((j : Int) + 1) = -1 := fi_no h (fun y hy => by rw [hp] at hy; cases hy; exact hr)
theorem nx_same (h : St Ti.PF w0 w tb hb pb fv Ti.Z m Ps b held S) : Nx Ti.PF w0 w w tb hb pb fv Ti.Z m Ps (b + 1) held S := ⟨S, st_b h (by omega), Step.quiet (Kp.refl _ _)⟩
theorem nx_b {b2 : Nat} {Ps2 : List (It Int Bool)} {held2 : Int} (h : Nx Ti.PF w0 w w2 tb hb pb fv Ti.Z m Ps2 b held2 S) (hbb : b ≤ b2) : Nx Ti.PF w0 w w2 tb hb pb fv Ti.Z m Ps2 b2 held2 S := by
  obtain ⟨S2, h1, h2⟩ := h
  exact ⟨S2, st_b h1 hbb, h2⟩
theorem plan_putAt (h : Pq w0 w tb hb pb m Ps b held S v M) (hb1 : b < 1000000) (i x : Int) : ∃ (r : Bool) (Ps2 : List (It Int Bool)) (M2 : List S47) (held2 : Int),
    (∀ w S, St Ti.PF w0 w tb hb pb Ti.LV Ti.Z m Ps b held S → Calls Try.prog 14 #[.pointer (some ⟨tb, 0, none⟩), .int .i64 i, .int .i64 x] w fun e w' => e = .returned (.bool r) ∧ Nx Ti.PF w0 w w' tb hb pb Ti.LV Ti.Z m Ps2 (b + 1) held2 S) ∧
    (∃ k, brambleref04_PutAt.f k m M i x = some ((m : Int), M2, r)) ∧ RM Ps2 M2 ∧ (M2.length : Int) = held2 := by
  by_cases hi : i < 1 ∨ (m : Int) < i
  · refine ⟨false, Ps, M, held, fun w S hs => (Ti.putAt_bad hs hi x).mono (fun e w' q => ⟨q.1, q.2 ▸ nx_same hs⟩), putAt_no h.small m i x (by omega), h.rm, h.len⟩
  · obtain ⟨j, rfl⟩ : ∃ j : Nat, i = (j : Int) + 1 := ⟨(i - 1).toNat, by omega⟩
    by_cases hh : ∃ p, Ps[j]? = some p ∧ p.rank = true
    · obtain ⟨p, hp, hr⟩ := hh
      obtain ⟨k, hk, _⟩ := h.rm.held hp hr
      exact ⟨false, Ps, M, held, fun w S hs => (Ti.putAt_held hs hp hr x).mono (fun e w' q => ⟨q.1, q.2 ▸ nx_same hs⟩), putAt_no h.small m _ x (by omega), h.rm, h.len⟩
    · have hf : ∀ p, Ps[j]? = some p → p.rank = false := fun p hp => by
        cases hr : p.rank with
        | false => rfl
        | true => exact absurd ⟨p, hp, hr⟩ hh
      refine ⟨true, _, _, held + 1, fun w S hs => (Ti.putAt_ok hs (by omega) hf hb1 x).mono (fun e w' q => ⟨q.1, nx_b (b2 := b + 1) q.2 (by omega)⟩), putAt_yes h.small m _ x (by omega) (by omega) (fi_no h.rm hf), h.rm.put hf _ x, by rw [List.length_append, List.length_singleton]; have := h.len; omega⟩
theorem plan_put (h : Pq w0 w tb hb pb m Ps b held S v M) (hb1 : b < 1000000) (x : Int) : ∃ (r : Bool) (n : Int) (Ps2 : List (It Int Bool)) (M2 : List S47) (held2 : Int),
    (∀ w S, St Ti.PF w0 w tb hb pb Ti.LV Ti.Z m Ps b held S → Calls Try.prog 9 #[.pointer (some ⟨tb, 0, none⟩), .int .i64 x] w fun e w' => e = .returned (.tuple #[.int .i64 n, .bool r]) ∧ Nx Ti.PF w0 w w' tb hb pb Ti.LV Ti.Z m Ps2 (b + 1) held2 S) ∧
    (∃ k, brambleref04_Free.f k m M = some n) ∧ (∃ k, brambleref04_PutAt.f k m M n x = some ((m : Int), M2, r)) ∧ RM Ps2 M2 ∧ (M2.length : Int) = held2 := by
  have hle := (st_held h.st).2
  have hfree := free_f h.rm h.small hle h.st.small
  rcases free_cases Ps hle with ⟨j, h1, h2, h3, _⟩ | ⟨h1, _⟩
  · rw [h1] at hfree
    refine ⟨true, (j : Int) + 1, _, _, held + 1, fun w S hs => (Ti.put_ok hs h1 h2 h3 hb1 x).mono (fun e w' q => ⟨q.1, nx_b (b2 := b + 1) q.2 (by omega)⟩), hfree, putAt_yes h.small m _ x (by omega) (by omega) (fi_no h.rm h3), h.rm.put h3 _ x, by rw [List.length_append, List.length_singleton]; have := h.len; omega⟩
  · rw [h1] at hfree
    exact ⟨false, 0, Ps, M, held, fun w S hs => (Ti.put_no hs h1 x).mono (fun e w' q => ⟨q.1, nx_b (b2 := b + 1) q.2 (by omega)⟩), hfree, putAt_no h.small m 0 x (by omega), h.rm, h.len⟩
theorem plan_set (h : Pq w0 w tb hb pb m Ps b held S v M) (i x : Int) : ∃ (r : Bool) (Ps2 : List (It Int Bool)) (M2 : List S47) (held2 : Int),
    (∀ w S, St Ti.PF w0 w tb hb pb Ti.LV Ti.Z m Ps b held S → Calls Try.prog 20 #[.pointer (some ⟨tb, 0, none⟩), .int .i64 i, .int .i64 x] w fun e w' => e = .returned (.bool r) ∧ Nx Ti.PF w0 w w' tb hb pb Ti.LV Ti.Z m Ps2 (b + 1) held2 S) ∧
    (∃ k, brambleref04_Set.f k m M i x = some ((m : Int), M2, r)) ∧ RM Ps2 M2 ∧ (M2.length : Int) = held2 := by
  rcases inRange Ps i with ⟨j, p, rfl, hp⟩ | hi
  · cases hr : p.rank with
    | true =>
      obtain ⟨k, hk, hk2⟩ := h.rm.held hp hr
      exact ⟨true, _, _, held, fun w S hs => (Ti.set_ok hs hp hr x).mono (fun e w' q => ⟨q.1, nx_b (b2 := b + 1) q.2 (by omega)⟩), set_yes h.small m _ x hk hk2, h.rm.set_ hp hr hk2 x, by rw [List.length_set]; exact h.len⟩
    | false => exact ⟨false, Ps, M, held, fun w S hs => (Ti.set_free hs hp hr x).mono (fun e w' q => ⟨q.1, q.2 ▸ nx_same hs⟩), set_no h.small m _ x (fi_free h.rm hp hr), h.rm, h.len⟩
  · exact ⟨false, Ps, M, held, fun w S hs => (Ti.set_out hs hi x).mono (fun e w' q => ⟨q.1, q.2 ▸ nx_same hs⟩), set_no h.small m _ x (fi_out h.rm hi), h.rm, h.len⟩
theorem plan_drop (h : Pq w0 w tb hb pb m Ps b held S v M) (hb1 : b < 1000000) (i : Int) : ∃ (r : Bool) (y : Int) (Ps2 : List (It Int Bool)) (M2 : List S47) (held2 : Int),
    (∀ w S, St Ti.PF w0 w tb hb pb Ti.LV Ti.Z m Ps b held S → Calls Try.prog 10 #[.pointer (some ⟨tb, 0, none⟩), .int .i64 i] w fun e w' => e = .returned (.tuple #[.int .i64 y, .bool r]) ∧ Nx Ti.PF w0 w w' tb hb pb Ti.LV Ti.Z m Ps2 (b + 1) held2 S) ∧
    (∃ k, brambleref04_Drop.f k m M i = some ((m : Int), M2, y, r)) ∧ RM Ps2 M2 ∧ (M2.length : Int) = held2 := by
  rcases inRange Ps i with ⟨j, p, rfl, hp⟩ | hi
  · cases hr : p.rank with
    | true =>
      obtain ⟨k, hk, hk2⟩ := h.rm.held hp hr
      refine ⟨true, p.key, _, _, held - 1, fun w S hs => Ti.drop_ok hs hp hr hb1, drop_yes h.small m _ hk hk2, h.rm.drop hp hr hk2 _, ?_⟩
      have h1 := (List.getElem?_eq_some_iff.1 hk2).1
      have h2 := h.len
      rw [List.length_append, List.length_take, List.length_drop]
      omega
    | false => exact ⟨false, 0, Ps, M, held, fun w S hs => (Ti.drop_no hs (.inr ⟨j, p, rfl, hp, hr⟩)).mono (fun e w' q => ⟨q.1, nx_b (b2 := b + 1) q.2 (by omega)⟩), drop_no h.small m _ (fi_free h.rm hp hr), h.rm, h.len⟩
  · exact ⟨false, 0, Ps, M, held, fun w S hs => (Ti.drop_no hs (.inl hi)).mono (fun e w' q => ⟨q.1, nx_b (b2 := b + 1) q.2 (by omega)⟩), drop_no h.small m _ (fi_out h.rm hi), h.rm, h.len⟩
theorem plan_at (h : Pq w0 w tb hb pb m Ps b held S v M) (i : Int) : ∃ (r : Bool) (y : Int),
    (∀ w S, St Ti.PF w0 w tb hb pb Ti.LV Ti.Z m Ps b held S → Calls Try.prog 11 #[.pointer (some ⟨tb, 0, none⟩), .int .i64 i] w fun e w' => e = .returned (.tuple #[.int .i64 y, .bool r]) ∧ Nx Ti.PF w0 w w' tb hb pb Ti.LV Ti.Z m Ps (b + 1) held S) ∧
    ((r = true ∧ ∃ (k : Nat) (z : S47), fi M i = k ∧ M[k]? = some z ∧ z.f1 = y) ∨ (r = false ∧ y = 0 ∧ fi M i = -1)) := by
  rcases inRange Ps i with ⟨j, p, rfl, hp⟩ | hi
  · refine ⟨p.rank, p.key, fun w S hs => (Ti.at_st hs hp).mono (fun e w' q => ⟨q.1, nx_b (b2 := b + 1) q.2 (by omega)⟩), ?_⟩
    cases hr : p.rank with
    | true =>
      obtain ⟨k, hk, hk2⟩ := h.rm.held hp hr
      exact .inl ⟨rfl, k, _, hk, hk2, rfl⟩
    | false =>
      obtain ⟨sv, pv, L, c, q1, q2, q3, q4, _⟩ := h.st.ex
      exact .inr ⟨rfl, q2.zero p (List.mem_of_getElem? hp) hr, fi_free h.rm hp hr⟩
  · exact ⟨false, 0, fun w S hs => (Ti.at_st_no hs hi).mono (fun e w' q => ⟨q.1, nx_b (b2 := b + 1) q.2 (by omega)⟩), .inr ⟨rfl, rfl, fi_out h.rm hi⟩⟩
/-- The table has been called. -/
theorem Pq.table {Ps2 : List (It Int Bool)} {b2 : Nat} {held2 : Int} (h : Pq w0 w tb hb pb m Ps b held S v M) (N : Nx Ti.PF w0 w w2 tb hb pb Ti.LV Ti.Z m Ps2 b2 held2 S) : ∃ S2, St Ti.PF w0 w2 tb hb pb Ti.LV Ti.Z m Ps2 b2 held2 S2 ∧ Kd.R k47 47 w2 w0.heap.size (fun _ => True) v M ∧ Kp w w2 S := by
  obtain ⟨S2, h1, h2⟩ := N
  exact ⟨S2, h1, row_kept h.row h2.kp (fun k hk hs => st_types h.st hs hk), h2.kp⟩
/-- The reference has been called. -/
theorem ref_st (h : St Ti.PF w0 w tb hb pb Ti.LV Ti.Z m Ps b held S) (hB : Below w0.heap.size w0 w2) (hk : Kept w w2 (RB w0 w)) : St Ti.PF w0 w2 tb hb pb Ti.LV Ti.Z m Ps b held S ∧ Kp w w2 (RB w0 w) := by
  have K := kp_of h.kept hB hk
  exact ⟨st_keep h K (fun k h1 h2 => st_types h h2 h1) (fun k h1 => h1.1), K⟩
theorem c_putAt (h : St Ti.PF w0 w tb hb pb Ti.LV Ti.Z m Ps b held S) (hr : Kd.R k47 47 w w0.heap.size (fun _ => True) v M) {i x : Int} {M2 : List S47} {r : Bool} (hf : ∃ k, brambleref04_PutAt.f k m M i x = some ((m : Int), M2, r)) :
    Calls Try.prog 36 #[.agg #[.int .i64 m, v], .int .i64 i, .int .i64 x] w fun e w' => ∃ A c, e = .returned (.tuple #[.agg #[.int .i64 m, .slice A M2.length c], .bool r]) ∧ St Ti.PF w0 w' tb hb pb Ti.LV Ti.Z m Ps b held S ∧ Kd.R k47 47 w' w0.heap.size (fun _ => True) (.slice A M2.length c) M2 ∧ Kp w w' (RB w0 w) := by
  obtain ⟨k, hf⟩ := hf
  refine (brambleref04_PutAt.calls k m (RB w0 w) v M i x m M2 r w0 w h.kept.to_below (row_rb hr) hf).mono ?_
  rintro e w' ⟨v1, rfl, h1, h2, h3⟩
  obtain ⟨A, c, rfl⟩ := Kd.R_slice h1
  obtain ⟨h4, h5⟩ := ref_st h h2 h3
  exact ⟨A, c, rfl, h4, Kd.R_mono h1 (fun _ _ => trivial), h5⟩
theorem c_set (h : St Ti.PF w0 w tb hb pb Ti.LV Ti.Z m Ps b held S) (hr : Kd.R k47 47 w w0.heap.size (fun _ => True) v M) {i x : Int} {M2 : List S47} {r : Bool} (hf : ∃ k, brambleref04_Set.f k m M i x = some ((m : Int), M2, r)) :
    Calls Try.prog 38 #[.agg #[.int .i64 m, v], .int .i64 i, .int .i64 x] w fun e w' => ∃ A c, e = .returned (.tuple #[.agg #[.int .i64 m, .slice A M2.length c], .bool r]) ∧ St Ti.PF w0 w' tb hb pb Ti.LV Ti.Z m Ps b held S ∧ Kd.R k47 47 w' w0.heap.size (fun _ => True) (.slice A M2.length c) M2 ∧ Kp w w' (RB w0 w) := by
  obtain ⟨k, hf⟩ := hf
  refine (brambleref04_Set.calls k m (RB w0 w) v M i x m M2 r w0 w h.kept.to_below (row_rb hr) hf).mono ?_
  rintro e w' ⟨v1, rfl, h1, h2, h3⟩
  obtain ⟨A, c, rfl⟩ := Kd.R_slice h1
  obtain ⟨h4, h5⟩ := ref_st h h2 h3
  exact ⟨A, c, rfl, h4, Kd.R_mono h1 (fun _ _ => trivial), h5⟩
theorem c_rdrop (h : St Ti.PF w0 w tb hb pb Ti.LV Ti.Z m Ps b held S) (hr : Kd.R k47 47 w w0.heap.size (fun _ => True) v M) {i y : Int} {M2 : List S47} {r : Bool} (hf : ∃ k, brambleref04_Drop.f k m M i = some ((m : Int), M2, y, r)) :
    Calls Try.prog 39 #[.agg #[.int .i64 m, v], .int .i64 i] w fun e w' => ∃ A c, e = .returned (.tuple #[.agg #[.int .i64 m, .slice A M2.length c], .int .i64 y, .bool r]) ∧ St Ti.PF w0 w' tb hb pb Ti.LV Ti.Z m Ps b held S ∧ Kd.R k47 47 w' w0.heap.size (fun _ => True) (.slice A M2.length c) M2 ∧ Kp w w' (RB w0 w) := by
  obtain ⟨k, hf⟩ := hf
  refine (brambleref04_Drop.calls k m (RB w0 w) v M i m M2 y r w0 w h.kept.to_below (row_rb hr) hf).mono ?_
  rintro e w' ⟨v1, rfl, h1, h2, h3⟩
  obtain ⟨A, c, rfl⟩ := Kd.R_slice h1
  obtain ⟨h4, h5⟩ := ref_st h h2 h3
  exact ⟨A, c, rfl, h4, Kd.R_mono h1 (fun _ _ => trivial), h5⟩
theorem c_find {A : Option Addr} {c : Nat} (hr : Kd.R k47 47 w w0.heap.size (fun _ => True) (.slice A M.length c) M) (hn : M.length < 1048576) (i : Int) :
    Calls Try.prog 37 #[.agg #[.int .i64 m, .slice A M.length c], .int .i64 i] w fun e w' => e = .returned (.int .i64 (fi M i)) ∧ Kp w w' (fun _ => False) := by
  have h := Kd.R_reads' hr
  exact (brambleref04_Find.calls (M.length + 1) m A c M i _ w h.2.2 h.2.1 (find_f hn (Nat.le_refl _) _ _)).mono (fun e w' q => ⟨q.1, Kp.of_below q.2 _⟩)
theorem c_free {A : Option Addr} {c : Nat} (hr : Kd.R k47 47 w w0.heap.size (fun _ => True) (.slice A M.length c) M) {n : Int} (hf : ∃ k, brambleref04_Free.f k m M = some n) :
    Calls Try.prog 35 #[.agg #[.int .i64 m, .slice A M.length c]] w fun e w' => e = .returned (.int .i64 n) ∧ Kp w w' (fun _ => False) := by
  obtain ⟨k, hf⟩ := hf
  have h := Kd.R_reads' hr
  exact (brambleref04_Free.calls k m A c M _ w h.2.2 h.2.1 hf).mono (fun e w' q => ⟨q.1, Kp.of_below q.2 _⟩)
theorem c_next {A : Option Addr} {c : Nat} (hr : Kd.R k47 47 w w0.heap.size (fun _ => True) (.slice A M.length c) M) (hm : RM Ps M) (hn : M.length < 1048576) {i r : Int} (hi : IsNext Ps i r) :
    Calls Try.prog 41 #[.agg #[.int .i64 m, .slice A M.length c], .int .i64 i] w fun e w' => e = .returned (.int .i64 r) ∧ Kp w w' (fun _ => False) := by
  have h := Kd.R_reads' hr
  exact (brambleref04_Next.calls (M.length + 1) m A c M i _ w h.2.2 h.2.1 (next_f hm hn _ _ hi (Nat.le_refl _))).mono (fun e w' q => ⟨q.1, Kp.of_below q.2 _⟩)
end
/-- Boxes of a table's value or of an operation stay, but for S. -/
def KB (w w2 : World) (S : Nat → Prop) : Prop := ∀ (k : Nat) (cells : Array Value) (t : TypeId), t = 34 ∨ t = 39 ∨ t = 23 → w.heap[k]? = some (.cells cells t (0, 0)) → ¬ S k → w2.heap[k]? = some (.cells cells t (0, 0))
section
variable {w0 w w2 w3 : World} {S S2 X : Nat → Prop}
theorem KB.of_S (K : Kp w w2 S) : KB w w2 S := fun k cells t ht h hs => blk_kp h K hs
theorem KB.of_F (K : Kp w w2 (fun _ => False)) (S : Nat → Prop) : KB w w2 S := fun k cells t ht h hs => blk_kp h K (fun h => h)
theorem KB.of_R (K : Kp w w2 (RB w0 w)) (S : Nat → Prop) : KB w w2 S := fun k cells t ht h hs => blk_kp h K (fun ⟨_, c2, h2⟩ => by
  rw [h] at h2
  rcases ht with rfl | rfl | rfl <;> cases h2)
theorem KB.trans (h : KB w w2 S) (k : KB w2 w3 S2) (hf : ∀ k, S2 k → S k ∨ w.heap.size ≤ k) : KB w w3 S := fun i cells t ht hi hs => k i cells t ht (h i cells t ht hi hs) (fun h2 => (hf i h2).elim hs (fun hl => by have := blk_lt hi; omega))
theorem KB.new (h : KB w w2 S) (K : Kp w2 w3 X) (hX : ∀ k, X k → w.heap.size ≤ k) : KB w w3 S := fun i cells t ht hi hs => blk_kp (h i cells t ht hi hs) K (fun hx => by have := hX i hx; have := blk_lt hi; omega)
/-- The step's three boxes. -/
structure Bx (w wr : World) (m : Nat) (kd i x : Int) (v : Value) : Prop where
  b4 : wr.heap[w.heap.size]? = some (.cells #[.int .i64 m, v] 34 (0, 0))
  b5 : wr.heap[w.heap.size + 1]? = some (.cells #[.int .i64 kd, .int .i64 i, .int .i64 x] 39 (0, 0))
  b6 : wr.heap[w.heap.size + 2]? = some (.cells #[.int .i64 0, .slice none 0 0] 34 (0, 0))
theorem Bx.keep {wr : World} {m : Nat} {kd i x : Int} {v : Value} (h : Bx w wr m kd i x v) (K : KB wr w2 S) (hS : ∀ k, S k → k < w.heap.size) : Bx w w2 m kd i x v :=
  ⟨K _ _ _ (.inl rfl) h.b4 (fun hs => by have := hS _ hs; omega), K _ _ _ (.inr (.inl rfl)) h.b5 (fun hs => by have := hS _ hs; omega), K _ _ _ (.inl rfl) h.b6 (fun hs => by have := hS _ hs; omega)⟩
theorem bx_new (w : World) (m : Nat) (kd i x : Int) (v : Value) : Bx w (((w.alloc (.cells #[.int .i64 m, v] 34)).alloc (.cells #[.int .i64 kd, .int .i64 i, .int .i64 x] 39)).alloc (.cells #[.int .i64 0, .slice none 0 0] 34)) m kd i x v := by
  have h4 := heap_alloc_new w (.cells #[.int .i64 m, v] 34)
  have h5 := heap_alloc_new (w.alloc (.cells #[.int .i64 m, v] 34)) (.cells #[.int .i64 kd, .int .i64 i, .int .i64 x] 39)
  have h6 := heap_alloc_new ((w.alloc (.cells #[.int .i64 m, v] 34)).alloc (.cells #[.int .i64 kd, .int .i64 i, .int .i64 x] 39)) (.cells #[.int .i64 0, .slice none 0 0] 34)
  rw [World.size_alloc] at h5
  rw [World.size_alloc, World.size_alloc] at h6
  exact ⟨blk_kp (blk_kp h4 ((Kp.refl _ (fun _ => False)).alloc _) (fun h => h)) ((Kp.refl _ (fun _ => False)).alloc _) (fun h => h), blk_kp h5 ((Kp.refl _ (fun _ => False)).alloc _) (fun h => h), h6⟩
end
theorem set2 {W : World} {p q i j i' : Nat} (h : q ≠ p) (u u' : Value) : ((W.setCell ⟨p, i, none⟩ u).setCell ⟨p, i', none⟩ u').cell? ⟨q, j, none⟩ = W.cell? ⟨q, j, none⟩ := by
  rw [World.cell?_setCell_other _ _ _ _ (by first | (simp; done) | (simp; omega)), World.cell?_setCell_other _ _ _ _ (by first | (simp; done) | (simp; omega))]
theorem free_q {w0 w : World} {tb hb pb m b : Nat} {Ps : List (It Int Bool)} {held : Int} {S : Nat → Prop} (h : St Ti.PF w0 w tb hb pb Ti.LV Ti.Z m Ps b held S) : Calls Try.prog 12 #[.pointer (some ⟨tb, 0, none⟩)] w fun e w' => e = .returned (.int .i64 (freeOf Ps m : Int)) ∧ Kp w w' (fun _ => False) := by
  obtain ⟨sv, pv, L, c, M, P, _⟩ := h.ex
  exact Ti.free_calls M P h.small
/-- What the law's step leaves. -/
def Out (w0 w w' : World) (tb hb pb m b : Nat) (S : Nat → Prop) (e : Ending) : Prop :=
  ∃ (A2 : Option Addr) (c2 : Nat) (Ps2 : List (It Int Bool)) (M2 : List S47) (held2 : Int) (S2 : Nat → Prop), e = .returned (.tuple #[.agg #[.int .i64 m, .slice A2 M2.length c2], .bool true]) ∧ Pq w0 w' tb hb pb m Ps2 (b + 1) held2 S2 (.slice A2 M2.length c2) M2 ∧ KB w w' S ∧ ∀ k, S2 k → S k ∨ w.heap.size ≤ k
theorem out_mk {w0 w wa w' : World} {tb hb pb m b : Nat} {S S2 : Nat → Prop} {Ps2 : List (It Int Bool)} {M2 : List S47} {held2 : Int} {A2 : Option Addr} {c2 : Nat} {X : Nat → Prop}
    (st : St Ti.PF w0 wa tb hb pb Ti.LV Ti.Z m Ps2 (b + 1) held2 S2) (row : Kd.R k47 47 wa w0.heap.size (fun _ => True) (.slice A2 M2.length c2) M2) (rm : RM Ps2 M2) (len : (M2.length : Int) = held2) (kb : KB w wa S) (foot : ∀ k, S2 k → S k ∨ w.heap.size ≤ k)
    (K : Kp wa w' X) (hX : ∀ k, X k → w.heap.size ≤ k) (hX2 : ∀ k, X k → ¬ S2 k) (hX3 : ∀ k, X k → ¬ RB w0 wa k) (h0 : w0.heap.size ≤ w.heap.size) :
    Out w0 w w' tb hb pb m b S (.returned (.tuple #[.agg #[.int .i64 m, .slice A2 M2.length c2], .bool true])) :=
  ⟨A2, c2, Ps2, M2, held2, S2, rfl, ⟨st_keep st K hX2 (fun k hk => Nat.le_trans h0 (hX k hk)), row_kept row K (fun k h1 h2 => hX3 k h2 h1), rm, len⟩, kb.new K hX, foot⟩
end Go.Proofs.Ytiocnkoogachkaa.Vp
