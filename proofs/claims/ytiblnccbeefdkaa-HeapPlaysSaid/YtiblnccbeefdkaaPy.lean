/- This text proves the law HeapPlays as a walk: a heap beside the reference's list, one step of each kind, and the law. -/
import Derived.Test.YtiblnccbeefdkaaLs
import Derived.Test.YtiblnccbeefdkaaHy
import Derived.Test.YtiblnccbeefdkaaRl
import Derived.Test.YtiblnccbeefdkaaLl
import Derived.Test.YtiblnccbeefdkaaOp
namespace Go.Proofs.Ytiblnccbeefdkaa.Pl
open Go.RowKit Go.Proofs.YtiblnccbeefdkaaW.PrintWords Go.Proofs.Ytiblnccbeefdkaa.Mp Go.Proofs.Ytiblnccbeefdkaa.Hp Go.Proofs.Ytiblnccbeefdkaa.Aw Go.Proofs.Ytiblnccbeefdkaa.Ls Go.Proofs.Ytiblnccbeefdkaa.Hy Go.Proofs.Ytiblnccbeefdkaa.PHeapPlays
set_option linter.unusedVariables false

/-- a heap, and the reference's list of the same keys in the order of their coming -/
structure Pl (w wr : World) (hb pb : Nat) (lv sv : Value) (L : List (It Int Int)) (c : Int) (v : Value) (M : List (It Int Int)) : Prop where
  st : St w wr hb pb lv sv L c
  perm : L.Perm M
  sort : M.Pairwise (fun a b => a.came < b.came)
  bound : ∀ x ∈ M, x.came ≤ c
  row : Kd.R k73 73 wr w.heap.size (fun _ => True) v (ref M)

section
variable {w wr w2 : World} {hb pb : Nat} {lv sv sv' v v' : Value} {L L' M M' : List (It Int Int)} {c c' : Int}
/-- the list's blocks -/
def Rows (w : World) (k : Nat) : Prop := ∃ cells, w.heap[k]? = some (.cells cells 73 (0, 0))
theorem row_own (h : Kd.R k73 73 wr w.heap.size (fun _ => True) v (ref M)) : Kd.R k73 73 wr w.heap.size (Rows wr) v (ref M) :=
  Kd.R_mono (Kd.R_bound h) (fun k hk => by
    obtain ⟨_, _, _, q, hq, cells, hc⟩ := hk
    have e : q = 73 := by simpa [Kd.E, k73, Kd.iso, Kd.pair, Kd.int, Kd.scalar] using hq
    subst e
    exact ⟨cells, hc⟩)
theorem rows_apart (S : St w wr hb pb lv sv L c) {k : Nat} (h : Rows wr k) : ¬ Mine hb pb sv k := by
  obtain ⟨cells, hc⟩ := h
  rintro (rfl | rfl | hk)
  · exact blk_ne S.rep.head hc (by decide) rfl
  · exact S.rep.map.ne_cells hc rfl
  · rcases S.rep.own.2 with ⟨hv, _⟩ | ⟨g, cap, cur, hv, _, hg, _⟩
    · rw [hv] at hk; cases hk
    · rw [hv] at hk
      simp [Value.ownBlock] at hk
      subst hk
      exact blk_ne hg hc (by decide) rfl
theorem kept_of {S : Nat → Prop} (h : Kp wr w2 S) : Kept wr w2 S := ⟨h.size, h.keep⟩
theorem kp_of {S : Nat → Prop} (h0 : Kp w wr (fun _ => False)) (hb : Below w.heap.size w w2) (hk : Kept wr w2 S) : Kp wr w2 S := ⟨hk.1, hk.2, hb.os.trans h0.os.symm, hb.tape.trans h0.tape.symm, hb.output.trans h0.output.symm⟩

/-- the heap has been written -/
theorem Pl.write (h : Pl w wr hb pb lv sv L c v M) (K : Kp wr w2 (fun k => Mine hb pb sv k ∨ False)) (R : Rep Hii.F w2 w.heap.size hb pb lv sv' L' c') (hH : Heap L') (hf : ∀ b, sv'.ownBlock = some b → sv.ownBlock = some b ∨ wr.heap.size ≤ b) :
    St w w2 hb pb lv sv' L' c' ∧ Kd.R k73 73 w2 w.heap.size (fun _ => True) v (ref M) :=
  ⟨st_write h.st K R hH hf, Kd.R_mono (Kd.R_kept (row_own h.row) (kept_of K) (fun k hk hm => hm.elim (rows_apart h.st hk) (fun f => f))) (fun _ _ => trivial)⟩
theorem Pl.kept (h : Pl w wr hb pb lv sv L c v M) (K : Kp wr w2 (fun _ => False)) : Pl w w2 hb pb lv sv L c v M :=
  ⟨st_kept h.st K, h.perm, h.sort, h.bound, Kd.R_mono (Kd.R_kept (row_own h.row) (kept_of K) (fun _ _ f => f)) (fun _ _ => trivial)⟩

theorem at_calls (h : Pl w wr hb pb lv sv L c v M) (hn : M.length < 1048576) (k : Int) : ∃ A cp, v = .slice A M.length cp ∧ Calls Try.prog 41 #[v, .int .i64 k] wr fun e w' => e = .returned (.int .i64 (atI M k)) ∧ Kp wr w' (fun _ => False) := by
  obtain ⟨A, cp, rfl⟩ := Kd.R_slice h.row
  have hr := Kd.R_reads' h.row
  refine ⟨A, cp, by rw [ref_len], (brambleref03_At.calls _ _ _ (ref M) k _ wr hr.2.2 hr.2.1 (at_f M k hn)).mono ?_⟩
  rintro e w' ⟨rfl, ⟨nd, rfl⟩⟩
  exact ⟨rfl, (Kp.refl wr _).drewN nd⟩
theorem first_calls (h : Pl w wr hb pb lv sv L c v M) (hn : M.length < 1048576) : ∃ r, Best M M.length r ∧ Calls Try.prog 43 #[v] wr fun e w' => e = .returned (.int .i64 r) ∧ Kp wr w' (fun _ => False) := by
  obtain ⟨A, cp, rfl⟩ := Kd.R_slice h.row
  have hr := Kd.R_reads' h.row
  obtain ⟨r, h1, h2⟩ := first_f M hn
  refine ⟨r, h2, (brambleref03_First.calls _ _ _ (ref M) _ wr hr.2.2 hr.2.1 h1).mono ?_⟩
  rintro e w' ⟨rfl, ⟨nd, rfl⟩⟩
  exact ⟨rfl, (Kp.refl wr _).drewN nd⟩
/-- a list that the reference has made anew -/
def NewRow (w wr w' : World) (hb pb : Nat) (lv sv : Value) (L : List (It Int Int)) (c : Int) (v' : Value) (M' : List (It Int Int)) : Prop :=
  St w w' hb pb lv sv L c ∧ Kd.R k73 73 w' w.heap.size (fun _ => True) v' (ref M')
theorem push_calls (h : Pl w wr hb pb lv sv L c v M) (hn : M.length < 1048576) (k p cc : Int) :
    Calls Try.prog 38 #[v, .int .i64 k, .int .i64 p] wr fun e w' => ∃ v', e = .returned (.tuple #[v', .bool (decide (k ∉ keys M))]) ∧ Kp wr w' (Rows wr) ∧ NewRow w wr w' hb pb lv sv L c v' (if k ∈ keys M then M else M ++ [⟨k, p, cc⟩]) := by
  have hf := push_f M k p cc hn
  by_cases hk : k ∈ keys M
  · rw [if_pos hk] at hf ⊢
    refine (brambleref03_Push.calls _ (Rows wr) v (ref M) k p _ _ w wr h.st.kept.to_below (row_own h.row) hf).mono ?_
    rintro e w' ⟨v0, rfl, hR, hB, hK⟩
    have K := kp_of h.st.kept hB hK
    exact ⟨v0, by simp [hk], K, ⟨h.st.rep.kept K (fun k hk => rows_apart h.st hk), h.st.heap, ⟨hB.size, fun i hi _ => hB.block i hi, hB.os, hB.tape, hB.output⟩, h.st.own⟩, Kd.R_mono hR (fun _ _ => trivial)⟩
  · rw [if_neg hk] at hf ⊢
    refine (brambleref03_Push.calls _ (Rows wr) v (ref M) k p _ _ w wr h.st.kept.to_below (row_own h.row) hf).mono ?_
    rintro e w' ⟨v0, rfl, hR, hB, hK⟩
    have K := kp_of h.st.kept hB hK
    exact ⟨v0, by simp [hk], K, ⟨h.st.rep.kept K (fun k hk => rows_apart h.st hk), h.st.heap, ⟨hB.size, fun i hi _ => hB.block i hi, hB.os, hB.tape, hB.output⟩, h.st.own⟩, Kd.R_mono hR (fun _ _ => trivial)⟩
theorem lower_calls (h : Pl w wr hb pb lv sv L c v M) (hn : M.length < 1048576) (k p : Int) (hnd : (keys M).Nodup) :
    (k ∉ keys M → Calls Try.prog 39 #[v, .int .i64 k, .int .i64 p] wr fun e w' => ∃ v', e = .returned (.tuple #[v', .bool false]) ∧ Kp wr w' (Rows wr) ∧ NewRow w wr w' hb pb lv sv L c v' M) ∧
    (∀ i x, M[i]? = some x → x.key = k → Calls Try.prog 39 #[v, .int .i64 k, .int .i64 p] wr fun e w' => ∃ v', e = .returned (.tuple #[v', .bool (decide (p < x.rank))]) ∧ Kp wr w' (Rows wr) ∧ NewRow w wr w' hb pb lv sv L c v' (if p < x.rank then M.set i ⟨x.key, p, x.came⟩ else M)) := by
  obtain ⟨hf1, hf2⟩ := lower_f M k p hn hnd
  constructor
  · intro hk
    refine (brambleref03_Lower.calls _ (Rows wr) v (ref M) k p _ _ w wr h.st.kept.to_below (row_own h.row) (hf1 hk)).mono ?_
    rintro e w' ⟨v0, rfl, hR, hB, hK⟩
    have K := kp_of h.st.kept hB hK
    exact ⟨v0, rfl, K, ⟨h.st.rep.kept K (fun k hk => rows_apart h.st hk), h.st.heap, ⟨hB.size, fun i hi _ => hB.block i hi, hB.os, hB.tape, hB.output⟩, h.st.own⟩, Kd.R_mono hR (fun _ _ => trivial)⟩
  · intro i x hx hk
    have hf := hf2 i x hx hk
    by_cases hp : p < x.rank
    · rw [if_pos hp] at hf ⊢
      refine (brambleref03_Lower.calls _ (Rows wr) v (ref M) k p _ _ w wr h.st.kept.to_below (row_own h.row) hf).mono ?_
      rintro e w' ⟨v0, rfl, hR, hB, hK⟩
      have K := kp_of h.st.kept hB hK
      exact ⟨v0, by simp [hp], K, ⟨h.st.rep.kept K (fun k hk => rows_apart h.st hk), h.st.heap, ⟨hB.size, fun i hi _ => hB.block i hi, hB.os, hB.tape, hB.output⟩, h.st.own⟩, Kd.R_mono hR (fun _ _ => trivial)⟩
    · rw [if_neg hp] at hf ⊢
      refine (brambleref03_Lower.calls _ (Rows wr) v (ref M) k p _ _ w wr h.st.kept.to_below (row_own h.row) hf).mono ?_
      rintro e w' ⟨v0, rfl, hR, hB, hK⟩
      have K := kp_of h.st.kept hB hK
      exact ⟨v0, by simp [hp], K, ⟨h.st.rep.kept K (fun k hk => rows_apart h.st hk), h.st.heap, ⟨hB.size, fun i hi _ => hB.block i hi, hB.os, hB.tape, hB.output⟩, h.st.own⟩, Kd.R_mono hR (fun _ _ => trivial)⟩
theorem without_calls (h : Pl w wr hb pb lv sv L c v M) (hn : M.length < 1048576) (i : Nat) (hi : i < M.length) :
    Calls Try.prog 42 #[v, .int .i64 (i : Int)] wr fun e w' => ∃ v', e = .returned v' ∧ Kp wr w' (fun _ => False) ∧ NewRow w wr w' hb pb lv sv L c v' (M.eraseIdx i) := by
  obtain ⟨A, cp, rfl⟩ := Kd.R_slice h.row
  have hr := Kd.R_reads' h.row
  refine (brambleref03_Without.calls _ _ (ref M) (i : Int) _ wr hr.2.2 hr.2.1 (without_f M i hi hn)).mono ?_
  rintro e w' ⟨v0, rfl, hR, hB⟩
  have K : Kp wr w' (fun _ => False) := Kp.of_below hB _
  exact ⟨v0, rfl, K, st_kept h.st K, Kd.R_lower hR h.st.kept.size⟩
end
end Go.Proofs.Ytiblnccbeefdkaa.Pl
namespace Go.Proofs.Ytiblnccbeefdkaa.Pl
open Go.RowKit Go.Proofs.YtiblnccbeefdkaaW.PrintWords Go.Proofs.Ytiblnccbeefdkaa.Mp Go.Proofs.Ytiblnccbeefdkaa.Hp Go.Proofs.Ytiblnccbeefdkaa.Aw Go.Proofs.Ytiblnccbeefdkaa.Ls Go.Proofs.Ytiblnccbeefdkaa.Hy Go.Proofs.Ytiblnccbeefdkaa.PHeapPlays
set_option linter.unusedVariables false

/-- what a step leaves -/
def Post (w : World) (hb pb : Nat) (lv : Value) (c : Int) (M : List (It Int Int)) (pop : Bool) (e : Ending) (w' : World) : Prop :=
  ∃ v' sv' L' c' M', e = .returned (.tuple #[v', .bool true]) ∧ Pl w w' hb pb lv sv' L' c' v' M' ∧ c ≤ c' ∧ c' ≤ c + 1 ∧ M'.length ≤ M.length + 1 ∧ (pop = true → M'.length = M.length - 1)
theorem post_intro {w w' : World} {hb pb : Nat} {lv sv' v' : Value} {c c' : Int} {L' M M' : List (It Int Int)} {pop : Bool} (h : Pl w w' hb pb lv sv' L' c' v' M') (h1 : c ≤ c') (h2 : c' ≤ c + 1) (h3 : M'.length ≤ M.length + 1) (h4 : pop = true → M'.length = M.length - 1) :
    Post w hb pb lv c M pop (.returned (.tuple #[v', .bool true])) w' := ⟨v', sv', L', c', M', rfl, h, h1, h2, h3, h4⟩
abbrev LK (lv : Value) (base : Nat) : Prop := LessOk Try.prog (Value.int .i64) LT lv (fun _ => True) (fun _ => False) base
theorem keys_perm {L M : List (It Int Int)} (h : L.Perm M) : ∀ k, k ∈ keys L ↔ k ∈ keys M := fun k => (h.map _).mem_iff
/-- the boxed call -/
theorem box_at (wr : World) (a b d : Value) : (wr.alloc (.cells #[a, b, d] 36)).heap[wr.heap.size]? = some (.cells #[a, b, d] 36 (0, 0)) := heap_alloc_new _ _
theorem box_rows {W : World} {g : Nat} {cs : Array Value} (h : W.heap[g]? = some (.cells cs 36 (0, 0))) : ¬ Rows W g := by
  rintro ⟨cells, hc⟩
  exact blk_ne h hc (by decide) rfl
theorem box_mine {w W : World} {hb pb g : Nat} {lv sv : Value} {L : List (It Int Int)} {c : Int} {cs : Array Value} (h : W.heap[g]? = some (.cells cs 36 (0, 0))) (S : St w W hb pb lv sv L c) : ¬ (Mine hb pb sv g ∨ False) := by
  rintro ((rfl | rfl | hk) | f)
  · exact blk_ne S.rep.head h (by decide) rfl
  · exact S.rep.map.ne_cells h rfl
  · rcases S.rep.own.2 with ⟨hv, _⟩ | ⟨g', cap, cur, hv, _, hg, _⟩
    · rw [hv] at hk; cases hk
    · rw [hv] at hk
      simp [Value.ownBlock] at hk
      subst hk
      exact blk_ne hg h (by decide) rfl
  · exact f

theorem row_write {w wr w2 : World} {hb pb : Nat} {lv sv v : Value} {L M : List (It Int Int)} {c : Int} (S : St w wr hb pb lv sv L c) (R : Kd.R k73 73 wr w.heap.size (fun _ => True) v (ref M)) (K : Kp wr w2 (fun k => Mine hb pb sv k ∨ False)) :
    Kd.R k73 73 w2 w.heap.size (fun _ => True) v (ref M) :=
  Kd.R_mono (Kd.R_kept (row_own R) (kept_of K) (fun k hk hm => hm.elim (rows_apart S hk) (fun f => f))) (fun _ _ => trivial)
theorem sort_snoc {M : List (It Int Int)} {c : Int} {x : It Int Int} (hs : M.Pairwise (fun a b => a.came < b.came)) (hb : ∀ y ∈ M, y.came ≤ c) (hx : x.came = c + 1) : (M ++ [x]).Pairwise (fun a b => a.came < b.came) := by
  rw [List.pairwise_append]
  refine ⟨hs, List.pairwise_singleton _ _, fun a ha b hb' => ?_⟩
  rw [List.mem_singleton] at hb'
  subst hb'
  have := hb a ha
  omega
theorem sort_set {M : List (It Int Int)} {i : Nat} {x y : It Int Int} (hs : M.Pairwise (fun a b => a.came < b.came)) (hx : M[i]? = some x) (hy : y.came = x.came) : (M.set i y).Pairwise (fun a b => a.came < b.came) := by
  have e : (M.set i y).map (·.came) = M.map (·.came) := by
    rw [List.map_set]
    apply List.ext_getElem?
    intro m
    by_cases hm : i = m
    · subst hm
      rw [List.getElem?_set_self (by rw [List.length_map]; exact (List.getElem?_eq_some_iff.1 hx).1), List.getElem?_map, hx, hy]; rfl
    · rw [List.getElem?_set_ne hm]
  have h1 : (M.map (·.came)).Pairwise (· < ·) := List.pairwise_map.2 hs
  rw [← e] at h1
  exact List.pairwise_map.1 h1
theorem mem_set {M : List (It Int Int)} {i : Nat} {y z : It Int Int} (h : z ∈ M.set i y) : z = y ∨ z ∈ M := by
  rcases List.mem_or_eq_of_mem_set h with h | h
  · exact .inr h
  · exact .inl h

set_option maxHeartbeats 2000000 in
set_option maxRecDepth 100000 in
theorem step_push {w wr : World} {hb pb : Nat} {lv sv v : Value} {L M : List (It Int Int)} {c : Int} (h : Pl w wr hb pb lv sv L c v M) (LKo : LK lv w.heap.size) (hn : M.length < 1000000) (hc0 : 0 ≤ c) (hc1 : c < 4611686018427387904) (k p : Int) :
    Calls Try.prog 20 #[.pointer (some ⟨hb, 0, none⟩), v, .agg #[.int .i64 1, .int .i64 k, .int .i64 p]] wr fun e w' => Post w hb pb lv c M false e w' := by
  have HP1 := Aside0.mk (h.kept ((Kp.refl wr (fun _ => False)).alloc (.cells #[.int .i64 1, .int .i64 k, .int .i64 p] 36)))
  have HBX := Aside0.mk (box_at wr (.int .i64 1) (.int .i64 k) (.int .i64 p))
  have HL := Aside0.mk LKo
  clear h LKo
  by_cases hk : k ∈ keys M
  · have HK := Aside0.mk hk
    clear hk
    go_enter Try.func20, Try.ntmps20
    go_wp2_with fail
    refine (push_calls HP1.out (by omega) k p (c + 1)).mono ?_
    rintro e w2 ⟨v2, rfl, K2, N2⟩
    have hd : decide (k ∉ keys M) = false := by have := HK.out; simp [this]
    rw [hd]
    clear hd
    rw [if_pos HK.out] at N2
    have hx2 := blk_kp HBX.out K2 (box_rows HBX.out)
    have x1 : w2.cell? ⟨wr.heap.size, 1, none⟩ = some (.int .i64 k) := (blk_cell hx2 1).trans rfl
    have x2 : w2.cell? ⟨wr.heap.size, 2, none⟩ = some (.int .i64 p) := (blk_cell hx2 2).trans rfl
    have HN2 := Aside0.mk N2
    clear K2 N2 hx2
    obtain ⟨x, hx, hxk⟩ := List.mem_map.1 ((keys_perm HP1.out.perm k).2 HK.out)
    obtain ⟨i, hi⟩ := List.getElem?_of_mem hx
    subst hxk
    have HI := Aside0.mk hi
    clear hx hi
    go_wp2_with fail
    refine (Hii.push_in HN2.out.1.rep HI.out p).mono ?_
    rintro e w' ⟨rfl, rfl⟩
    go_wp2
    go_ret2
    exact post_intro ⟨HN2.out.1, HP1.out.perm, HP1.out.sort, HP1.out.bound, HN2.out.2⟩ (by omega) (by omega) (by omega) (fun h => by cases h)
  · have HK := Aside0.mk hk
    clear hk
    go_enter Try.func20, Try.ntmps20
    go_wp2_with fail
    refine (push_calls HP1.out (by omega) k p (c + 1)).mono ?_
    rintro e w2 ⟨v2, rfl, K2, N2⟩
    have hd : decide (k ∉ keys M) = true := by have := HK.out; simp [this]
    rw [hd]
    clear hd
    rw [if_neg HK.out] at N2
    have hx2 := blk_kp HBX.out K2 (box_rows HBX.out)
    have x1 : w2.cell? ⟨wr.heap.size, 1, none⟩ = some (.int .i64 k) := (blk_cell hx2 1).trans rfl
    have x2 : w2.cell? ⟨wr.heap.size, 2, none⟩ = some (.int .i64 p) := (blk_cell hx2 2).trans rfl
    have HN2 := Aside0.mk N2
    clear K2 N2 hx2
    go_wp2_with fail
    refine (Hii.push_calls HL.out hb pb sv L c _ k p (by have := HP1.out.perm.length_eq; omega) hc0 hc1 (fun h => HK.out ((keys_perm HP1.out.perm k).1 h)) HN2.out.1.rep trivial).mono ?_
    rintro e w5 ⟨rfl, sv5, L5, u5, R5, P5, _, K5, F5⟩
    have FIN : Aside0 (Pl w w5 hb pb lv sv5 L5 (c + 1) v2 (M ++ [⟨k, p, c + 1⟩])) :=
      ⟨st_write HN2.out.1 K5 R5 (push_heap HN2.out.1.heap u5) F5, P5.trans (HP1.out.perm.append_right _), sort_snoc HP1.out.sort HP1.out.bound rfl, fun x hx => by
        rcases List.mem_append.1 hx with h | h
        · have := HP1.out.bound x h; omega
        · rw [List.mem_singleton] at h; subst h; exact Int.le_refl _, row_write HN2.out.1 HN2.out.2 K5⟩
    clear u5 R5 P5 K5 F5
    go_wp2
    go_ret2
    exact post_intro FIN.out (by omega) (by omega) (by simp) (fun h => by cases h)

set_option maxHeartbeats 2000000 in
set_option maxRecDepth 100000 in
theorem step_lower {w wr : World} {hb pb : Nat} {lv sv v : Value} {L M : List (It Int Int)} {c : Int} (h : Pl w wr hb pb lv sv L c v M) (LKo : LK lv w.heap.size) (hn : M.length < 1000000) (k p : Int) :
    Calls Try.prog 20 #[.pointer (some ⟨hb, 0, none⟩), v, .agg #[.int .i64 2, .int .i64 k, .int .i64 p]] wr fun e w' => Post w hb pb lv c M false e w' := by
  have HP1 := Aside0.mk (h.kept ((Kp.refl wr (fun _ => False)).alloc (.cells #[.int .i64 2, .int .i64 k, .int .i64 p] 36)))
  have HBX := Aside0.mk (box_at wr (.int .i64 2) (.int .i64 k) (.int .i64 p))
  have HL := Aside0.mk LKo
  have hnd : (keys M).Nodup := ((h.perm.map _).nodup_iff).1 h.st.rep.nodup
  have HND := Aside0.mk hnd
  clear h LKo hnd
  by_cases hk : k ∈ keys M
  · obtain ⟨x, hx, hxk⟩ := List.mem_map.1 hk
    obtain ⟨i, hi⟩ := List.getElem?_of_mem hx
    obtain ⟨j, hj⟩ := List.getElem?_of_mem (HP1.out.perm.mem_iff.2 hx)
    subst hxk
    have HI := Aside0.mk hi
    have HJ := Aside0.mk hj
    clear hk hx hi hj
    go_enter Try.func20, Try.ntmps20
    go_wp2_with fail
    refine ((lower_calls HP1.out (by omega) x.key p HND.out).2 i x HI.out rfl).mono ?_
    rintro e w2 ⟨v2, rfl, K2, N2⟩
    have hx2 := blk_kp HBX.out K2 (box_rows HBX.out)
    have x1 : w2.cell? ⟨wr.heap.size, 1, none⟩ = some (.int .i64 x.key) := (blk_cell hx2 1).trans rfl
    have x2 : w2.cell? ⟨wr.heap.size, 2, none⟩ = some (.int .i64 p) := (blk_cell hx2 2).trans rfl
    have HN2 := Aside0.mk N2
    clear K2 N2 hx2
    by_cases hp : p < x.rank
    · have HD : Aside0 (decide (p < x.rank) = true) := ⟨decide_eq_true hp⟩
      rw [HD.out]
      have HPp := Aside0.mk hp
      clear hp
      go_wp2_with fail
      refine (Hii.lower_in HL.out HN2.out.1.rep trivial HJ.out p (by have := HP1.out.perm.length_eq; omega)).mono ?_
      rintro e w5 ⟨r, rfl, hr, _, K5, hcase⟩
      obtain rfl : r = true := Eq.trans hr HD.out
      obtain ⟨L1, u1, P1, R1⟩ : ∃ L1, UpR LT (L.set j ⟨x.key, p, x.came⟩) j L1 ∧ L1.Perm (L.set j ⟨x.key, p, x.came⟩) ∧ Rep Hii.F w5 w.heap.size hb pb lv sv L1 c := by
        rcases hcase with ⟨h, _⟩ | ⟨_, h⟩
        · cases h
        · exact h
      have FIN : Aside0 (Pl w w5 hb pb lv sv L1 c v2 (M.set i ⟨x.key, p, x.came⟩)) := by
        have hN := HN2.out
        rw [if_pos HPp.out] at hN
        refine ⟨⟨st_write hN.1 K5 R1 (lower_heap hN.1.heap HJ.out (by unfold Lt; have := HPp.out; simp only; omega) u1) (fun b hb => .inl hb), P1.trans (Ll.set_perm HP1.out.perm HJ.out HI.out), sort_set HP1.out.sort HI.out rfl, fun z hz => ?_, row_write hN.1 hN.2 K5⟩⟩
        rcases mem_set hz with rfl | hz
        · exact HP1.out.bound x (List.mem_of_getElem? HI.out)
        · exact HP1.out.bound z hz
      clear hr K5 hcase u1 P1 R1
      go_wp2
      go_ret2
      exact post_intro FIN.out (by omega) (by omega) (by simp) (fun h => by cases h)
    · have HD : Aside0 (decide (p < x.rank) = false) := ⟨decide_eq_false hp⟩
      rw [HD.out]
      have HPp := Aside0.mk hp
      clear hp
      go_wp2_with fail
      refine (Hii.lower_in HL.out HN2.out.1.rep trivial HJ.out p (by have := HP1.out.perm.length_eq; omega)).mono ?_
      rintro e w5 ⟨r, rfl, hr, _, K5, hcase⟩
      obtain rfl : r = false := Eq.trans hr HD.out
      have R1 : Rep Hii.F w5 w.heap.size hb pb lv sv L c := by
        rcases hcase with ⟨_, h⟩ | ⟨h, _⟩
        · exact h
        · cases h
      have FIN : Aside0 (Pl w w5 hb pb lv sv L c v2 M) := by
        have hN := HN2.out
        rw [if_neg (by have := HPp.out; omega)] at hN
        exact ⟨⟨st_write hN.1 K5 R1 hN.1.heap (fun b hb => .inl hb), HP1.out.perm, HP1.out.sort, HP1.out.bound, row_write hN.1 hN.2 K5⟩⟩
      clear hr K5 hcase R1
      go_wp2
      go_ret2
      exact post_intro FIN.out (by omega) (by omega) (by omega) (fun h => by cases h)
  · have HK := Aside0.mk hk
    clear hk
    go_enter Try.func20, Try.ntmps20
    go_wp2_with fail
    refine ((lower_calls HP1.out (by omega) k p HND.out).1 HK.out).mono ?_
    rintro e w2 ⟨v2, rfl, K2, N2⟩
    have hx2 := blk_kp HBX.out K2 (box_rows HBX.out)
    have x1 : w2.cell? ⟨wr.heap.size, 1, none⟩ = some (.int .i64 k) := (blk_cell hx2 1).trans rfl
    have x2 : w2.cell? ⟨wr.heap.size, 2, none⟩ = some (.int .i64 p) := (blk_cell hx2 2).trans rfl
    have HN2 := Aside0.mk N2
    clear K2 N2 hx2
    go_wp2_with fail
    refine (Hii.lower_absent HN2.out.1.rep (fun h => HK.out ((keys_perm HP1.out.perm k).1 h)) p).mono ?_
    rintro e w5 ⟨rfl, K5⟩
    have FIN : Aside0 (Pl w w5 hb pb lv sv L c v2 M) := ⟨(show Pl w w2 hb pb lv sv L c v2 M from ⟨HN2.out.1, HP1.out.perm, HP1.out.sort, HP1.out.bound, HN2.out.2⟩).kept K5⟩
    clear K5
    go_wp2
    go_ret2
    exact post_intro FIN.out (by omega) (by omega) (by omega) (fun h => by cases h)
end Go.Proofs.Ytiblnccbeefdkaa.Pl
namespace Go.Proofs.Ytiblnccbeefdkaa.Pl
open Go.RowKit Go.Proofs.YtiblnccbeefdkaaW.PrintWords Go.Proofs.Ytiblnccbeefdkaa.Mp Go.Proofs.Ytiblnccbeefdkaa.Hp Go.Proofs.Ytiblnccbeefdkaa.Aw Go.Proofs.Ytiblnccbeefdkaa.Ls Go.Proofs.Ytiblnccbeefdkaa.Hy Go.Proofs.Ytiblnccbeefdkaa.PHeapPlays
set_option linter.unusedVariables false
theorem without_row {w wr : World} {hb pb : Nat} {lv sv v : Value} {L M : List (It Int Int)} {c : Int} (S : St w wr hb pb lv sv L c) (R : Kd.R k73 73 wr w.heap.size (fun _ => True) v (ref M)) (hn : M.length < 1048576) (i : Nat) (hi : i < M.length) :
    Calls Try.prog 42 #[v, .int .i64 (i : Int)] wr fun e w' => ∃ v', e = .returned v' ∧ NewRow w wr w' hb pb lv sv L c v' (M.eraseIdx i) := by
  obtain ⟨A, cp, rfl⟩ := Kd.R_slice R
  have hr := Kd.R_reads' R
  refine (brambleref03_Without.calls _ _ (ref M) (i : Int) _ wr hr.2.2 hr.2.1 (without_f M i hi hn)).mono ?_
  rintro e w' ⟨v0, rfl, hR, hB⟩
  exact ⟨v0, rfl, st_kept S (Kp.of_below hB _), Kd.R_lower hR S.kept.size⟩

theorem atI_some {M : List (It Int Int)} {i : Nat} {x : It Int Int} (hn : (keys M).Nodup) (hi : M[i]? = some x) : atI M x.key = i := by
  unfold atI; rw [(place_iff hn x.key i).2 ⟨x, hi, rfl⟩]
theorem atI_none {M : List (It Int Int)} {k : Int} (h : k ∉ keys M) : atI M k = -1 := by
  unfold atI; rw [(place_none k).2 h]
theorem pl_drop {w wr w5 w6 : World} {hb pb : Nat} {lv sv sv5 v v6 : Value} {L L5 M : List (It Int Int)} {c : Int} {i j : Nat} {x : It Int Int} (h : Pl w wr hb pb lv sv L c v M) (hj : L[j]? = some x) (hi : M[i]? = some x) (D5 : DropR LT L j L5)
    (hN : NewRow w w5 w6 hb pb lv sv5 L5 c v6 (M.eraseIdx i)) : Pl w w6 hb pb lv sv5 L5 c v6 (M.eraseIdx i) := by
  have hp : L5.Perm (M.eraseIdx i) := (List.perm_cons x).1 ((D5.perm hj).trans (h.perm.trans (Ll.perm_eraseIdx hi).symm))
  exact ⟨hN.1, hp, h.sort.sublist (List.eraseIdx_sublist _ _), fun y hy => h.bound y ((List.eraseIdx_sublist _ _).subset hy), hN.2⟩
theorem erase_len {M : List (It Int Int)} {i : Nat} {x : It Int Int} (hi : M[i]? = some x) : (M.eraseIdx i).length = M.length - 1 := List.length_eraseIdx_of_lt (List.getElem?_eq_some_iff.1 hi).1

set_option maxHeartbeats 2000000 in
set_option maxRecDepth 100000 in
theorem step_drop {w wr : World} {hb pb : Nat} {lv sv v : Value} {L M : List (It Int Int)} {c : Int} (h : Pl w wr hb pb lv sv L c v M) (LKo : LK lv w.heap.size) (hn : M.length < 1000000) (k p : Int) :
    Calls Try.prog 20 #[.pointer (some ⟨hb, 0, none⟩), v, .agg #[.int .i64 6, .int .i64 k, .int .i64 p]] wr fun e w' => Post w hb pb lv c M false e w' := by
  have HP1 := Aside0.mk (h.kept ((Kp.refl wr (fun _ => False)).alloc (.cells #[.int .i64 6, .int .i64 k, .int .i64 p] 36)))
  have HBX := Aside0.mk (box_at wr (.int .i64 6) (.int .i64 k) (.int .i64 p))
  have HL := Aside0.mk LKo
  have HND := Aside0.mk (show (keys M).Nodup from ((h.perm.map _).nodup_iff).1 h.st.rep.nodup)
  obtain ⟨A, cp, rfl, hat⟩ := at_calls HP1.out (by omega) k
  have HAT := Aside0.mk hat
  clear h LKo hat
  by_cases hk : k ∈ keys M
  · obtain ⟨x, hx, hxk⟩ := List.mem_map.1 hk
    obtain ⟨i, hi⟩ := List.getElem?_of_mem hx
    obtain ⟨j, hj⟩ := List.getElem?_of_mem (HP1.out.perm.mem_iff.2 hx)
    subst hxk
    have HI := Aside0.mk hi
    have HJ := Aside0.mk hj
    clear hk hx hi hj
    go_enter Try.func20, Try.ntmps20
    go_wp2_with fail
    refine HAT.out.mono ?_
    rintro e w2 ⟨rfl, K2⟩
    rw [atI_some HND.out HI.out]
    have hx2 := blk_kp HBX.out K2 (fun h => h)
    have x1 : w2.cell? ⟨wr.heap.size, 1, none⟩ = some (.int .i64 x.key) := (blk_cell hx2 1).trans rfl
    have HP2 := Aside0.mk (HP1.out.kept K2)
    clear K2 hx2 HAT
    go_wp2_with fail
    refine (Hii.drop_in HL.out HP2.out.st.rep trivial HJ.out (by have := HP1.out.perm.length_eq; omega)).mono ?_
    rintro e w5 ⟨rfl, sv5, L5, D5, R5, _, K5, O5⟩
    have S5 := st_write HP2.out.st K5 R5 (D5.heap HJ.out HP2.out.st.heap) (fun b hb => .inl (by rw [← O5]; exact hb))
    have RW := row_write HP2.out.st HP2.out.row K5
    have HD5 := Aside0.mk D5
    have HS5 := Aside0.mk S5
    have HRW := Aside0.mk RW
    clear D5 R5 K5 O5 S5 RW
    have hil : i < M.length := (List.getElem?_eq_some_iff.1 HI.out).1
    go_wp2_with fail
    refine (without_row HS5.out HRW.out (by omega) i hil).mono ?_
    rintro e w6 ⟨v6, rfl, N6⟩
    have FIN := Aside0.mk (pl_drop HP2.out HJ.out HI.out HD5.out N6)
    have HLE := Aside0.mk (erase_len HI.out)
    clear N6
    go_wp2
    go_ret2
    exact post_intro FIN.out (by omega) (by omega) (by rw [HLE.out]; omega) (fun h => by cases h)
  · have HK := Aside0.mk hk
    clear hk
    go_enter Try.func20, Try.ntmps20
    go_wp2_with fail
    refine HAT.out.mono ?_
    rintro e w2 ⟨rfl, K2⟩
    rw [atI_none HK.out]
    have hx2 := blk_kp HBX.out K2 (fun h => h)
    have x1 : w2.cell? ⟨wr.heap.size, 1, none⟩ = some (.int .i64 k) := (blk_cell hx2 1).trans rfl
    have HP2 := Aside0.mk (HP1.out.kept K2)
    clear K2 hx2 HAT
    go_wp2_with fail
    refine (Hii.drop_absent HP2.out.st.rep (fun h => HK.out ((keys_perm HP1.out.perm k).1 h))).mono ?_
    rintro e w' ⟨rfl, rfl⟩
    go_wp2
    go_ret2
    exact post_intro HP2.out (by omega) (by omega) (by omega) (fun h => by cases h)
end Go.Proofs.Ytiblnccbeefdkaa.Pl
namespace Go.Proofs.Ytiblnccbeefdkaa.Pl
open Go.RowKit Go.Proofs.YtiblnccbeefdkaaW.PrintWords Go.Proofs.Ytiblnccbeefdkaa.Mp Go.Proofs.Ytiblnccbeefdkaa.Hp Go.Proofs.Ytiblnccbeefdkaa.Aw Go.Proofs.Ytiblnccbeefdkaa.Ls Go.Proofs.Ytiblnccbeefdkaa.Hy Go.Proofs.Ytiblnccbeefdkaa.PHeapPlays
set_option linter.unusedVariables false

set_option maxHeartbeats 2000000 in
set_option maxRecDepth 100000 in
theorem step_get {w wr : World} {hb pb : Nat} {lv sv v : Value} {L M : List (It Int Int)} {c : Int} (h : Pl w wr hb pb lv sv L c v M) (hn : M.length < 1000000) (k p : Int) :
    Calls Try.prog 20 #[.pointer (some ⟨hb, 0, none⟩), v, .agg #[.int .i64 5, .int .i64 k, .int .i64 p]] wr fun e w' => Post w hb pb lv c M false e w' := by
  have HP1 := Aside0.mk (h.kept ((Kp.refl wr (fun _ => False)).alloc (.cells #[.int .i64 5, .int .i64 k, .int .i64 p] 36)))
  have HBX := Aside0.mk (box_at wr (.int .i64 5) (.int .i64 k) (.int .i64 p))
  have HND := Aside0.mk (show (keys M).Nodup from ((h.perm.map _).nodup_iff).1 h.st.rep.nodup)
  obtain ⟨A, cp, rfl, _⟩ := at_calls HP1.out (by omega) k
  clear h
  by_cases hk : k ∈ keys M
  · obtain ⟨x, hx, hxk⟩ := List.mem_map.1 hk
    obtain ⟨i, hi⟩ := List.getElem?_of_mem hx
    obtain ⟨j, hj⟩ := List.getElem?_of_mem (HP1.out.perm.mem_iff.2 hx)
    subst hxk
    have HI := Aside0.mk hi
    have HJ := Aside0.mk hj
    have hil : i < M.length := (List.getElem?_eq_some_iff.1 hi).1
    clear hk hx hi hj
    go_enter Try.func20, Try.ntmps20
    go_wp2_with fail
    refine (Hii.get_some HP1.out.st.rep HJ.out).mono ?_
    rintro e w2 ⟨rfl, K2⟩
    have hx2 := blk_kp HBX.out K2 (fun h => h)
    have x1 : w2.cell? ⟨wr.heap.size, 1, none⟩ = some (.int .i64 x.key) := (blk_cell hx2 1).trans rfl
    have HP2 := Aside0.mk (HP1.out.kept K2)
    obtain ⟨A', cp', e', hat⟩ := at_calls HP2.out (by omega) x.key
    obtain ⟨rfl, _, rfl⟩ : A = A' ∧ True ∧ cp = cp' := by injection e' with a b c; exact ⟨a, trivial, c⟩
    have HAT := Aside0.mk hat
    clear K2 hx2 hat e'
    go_wp2_with fail
    refine HAT.out.mono ?_
    rintro e w3 ⟨rfl, K3⟩
    rw [atI_some HND.out HI.out]
    have HP3 := Aside0.mk (HP2.out.kept K3)
    obtain ⟨ad, rfl, hx0, hx1⟩ := at_T73 (Kd.R_reads' HP3.out.row).2.2 (i : Int) (by omega) (by rw [ref_len]; omega)
    rw [rd_get HI.out] at hx0 hx1
    rw [Int.toNat_natCast] at hx0 hx1
    simp only at hx0 hx1
    clear K3 HAT
    go_wp2
    go_ret2
    exact post_intro HP3.out (by omega) (by omega) (by omega) (fun h => by cases h)
  · have HK := Aside0.mk hk
    clear hk
    go_enter Try.func20, Try.ntmps20
    go_wp2_with fail
    refine (Hii.get_none HP1.out.st.rep (fun h => HK.out ((keys_perm HP1.out.perm k).1 h))).mono ?_
    rintro e w' ⟨rfl, rfl⟩
    obtain ⟨A', cp', e', hat⟩ := at_calls HP1.out (by omega) k
    obtain ⟨rfl, _, rfl⟩ : A = A' ∧ True ∧ cp = cp' := by injection e' with a b c; exact ⟨a, trivial, c⟩
    have HAT := Aside0.mk hat
    clear hat e'
    go_wp2_with fail
    refine HAT.out.mono ?_
    rintro e w3 ⟨rfl, K3⟩
    rw [atI_none HK.out]
    have HP3 := Aside0.mk (HP1.out.kept K3)
    clear K3 HAT
    go_wp2
    go_ret2
    exact post_intro HP3.out (by omega) (by omega) (by omega) (fun h => by cases h)

set_option maxHeartbeats 2000000 in
set_option maxRecDepth 100000 in
theorem step_pop {w wr : World} {hb pb : Nat} {lv sv v : Value} {L M : List (It Int Int)} {c : Int} (h : Pl w wr hb pb lv sv L c v M) (LKo : LK lv w.heap.size) (hn : M.length < 1000000) (k p : Int) :
    Calls Try.prog 20 #[.pointer (some ⟨hb, 0, none⟩), v, .agg #[.int .i64 3, .int .i64 k, .int .i64 p]] wr fun e w' => Post w hb pb lv c M true e w' := by
  have HP1 := Aside0.mk (h.kept ((Kp.refl wr (fun _ => False)).alloc (.cells #[.int .i64 3, .int .i64 k, .int .i64 p] 36)))
  have HBX := Aside0.mk (box_at wr (.int .i64 3) (.int .i64 k) (.int .i64 p))
  have HL := Aside0.mk LKo
  have hlen := h.perm.length_eq
  obtain ⟨A, cp, rfl, _⟩ := at_calls HP1.out (by omega) k
  obtain ⟨r, hbest, hfi⟩ := first_calls HP1.out (by omega)
  have HB := Aside0.mk hbest
  have HF := Aside0.mk hfi
  clear h LKo hbest hfi
  by_cases hM : M = []
  · have hr : r = -1 := by
      rcases HB.out with ⟨_, h⟩ | ⟨j, x, hj, _⟩
      · exact h
      · rw [hM] at hj; simp at hj
    subst hr
    have hL : L = [] := List.eq_nil_of_length_eq_zero (by rw [hlen, hM]; rfl)
    have HE := Aside0.mk hL
    clear hM hL
    go_enter Try.func20, Try.ntmps20
    go_wp2_with fail
    refine HF.out.mono ?_
    rintro e w2 ⟨rfl, K2⟩
    have hx2 := blk_kp HBX.out K2 (fun h => h)
    have x0 : w2.cell? ⟨wr.heap.size, 0, none⟩ = some (.int .i64 3) := (blk_cell hx2 0).trans rfl
    have HX2 := Aside0.mk hx2
    have HP2 := Aside0.mk (HP1.out.kept K2)
    clear K2 hx2 HF
    go_wp2_with fail
    refine (Hii.pop_nil HP2.out.st.rep HE.out).mono ?_
    rintro e w' ⟨rfl, rfl⟩
    go_wp2
    go_ret2
    exact post_intro HP2.out (by omega) (by omega) (by omega) (fun _ => by have := HE.out; rw [this] at hlen; simp at hlen; omega)
  · obtain ⟨x, hx⟩ : ∃ x, L[0]? = some x := ⟨_, List.getElem?_eq_getElem (by rw [hlen]; exact List.length_pos_iff.2 hM)⟩
    obtain ⟨j, rfl, hj⟩ := best_heap HP1.out.st.heap HP1.out.perm HP1.out.sort HB.out hx
    have HX := Aside0.mk hx
    have HI := Aside0.mk hj
    have hil : j < M.length := (List.getElem?_eq_some_iff.1 hj).1
    clear hM hx hj HB
    go_enter Try.func20, Try.ntmps20
    go_wp2_with fail
    refine HF.out.mono ?_
    rintro e w2 ⟨rfl, K2⟩
    have hx2 := blk_kp HBX.out K2 (fun h => h)
    have x0 : w2.cell? ⟨wr.heap.size, 0, none⟩ = some (.int .i64 3) := (blk_cell hx2 0).trans rfl
    have HX2 := Aside0.mk hx2
    have HP2 := Aside0.mk (HP1.out.kept K2)
    clear K2 hx2 HF
    go_wp2_with fail
    refine (Hii.pop_cons HL.out HP2.out.st.rep trivial HX.out (by omega)).mono ?_
    rintro e w5 ⟨rfl, sv5, L5, D5, R5, _, K5, O5⟩
    have S5 := st_write HP2.out.st K5 R5 (D5.heap HX.out HP2.out.st.heap) (fun b hb => .inl (by rw [← O5]; exact hb))
    have RW := row_write HP2.out.st HP2.out.row K5
    have hx5 := blk_kp HX2.out K5 (box_mine HX2.out HP2.out.st)
    have y0 : w5.cell? ⟨wr.heap.size, 0, none⟩ = some (.int .i64 3) := (blk_cell hx5 0).trans rfl
    have HD5 := Aside0.mk D5
    have HS5 := Aside0.mk S5
    have HRW := Aside0.mk RW
    clear D5 R5 K5 O5 S5 RW hx5 x0
    obtain ⟨ad, rfl, hx0, hx1⟩ := at_T73 (Kd.R_reads' HRW.out).2.2 (j : Int) (by omega) (by rw [ref_len]; omega)
    rw [rd_get HI.out] at hx0 hx1
    rw [Int.toNat_natCast] at hx0 hx1
    simp only at hx0 hx1
    go_wp2_with fail
    refine (without_row HS5.out HRW.out (by omega) j hil).mono ?_
    rintro e w6 ⟨v6, rfl, N6⟩
    have FIN := Aside0.mk (pl_drop HP2.out HX.out HI.out HD5.out N6)
    have HLE := Aside0.mk (erase_len HI.out)
    clear N6
    go_wp2
    go_ret2
    exact post_intro FIN.out (by omega) (by omega) (by rw [HLE.out]; omega) (fun _ => HLE.out)

set_option maxHeartbeats 2000000 in
set_option maxRecDepth 100000 in
theorem step_peek {w wr : World} {hb pb : Nat} {lv sv v : Value} {L M : List (It Int Int)} {c : Int} (h : Pl w wr hb pb lv sv L c v M) (LKo : LK lv w.heap.size) (hn : M.length < 1000000) (k p : Int) :
    Calls Try.prog 20 #[.pointer (some ⟨hb, 0, none⟩), v, .agg #[.int .i64 4, .int .i64 k, .int .i64 p]] wr fun e w' => Post w hb pb lv c M false e w' := by
  have HP1 := Aside0.mk (h.kept ((Kp.refl wr (fun _ => False)).alloc (.cells #[.int .i64 4, .int .i64 k, .int .i64 p] 36)))
  have HBX := Aside0.mk (box_at wr (.int .i64 4) (.int .i64 k) (.int .i64 p))
  have HL := Aside0.mk LKo
  have hlen := h.perm.length_eq
  obtain ⟨A, cp, rfl, _⟩ := at_calls HP1.out (by omega) k
  obtain ⟨r, hbest, hfi⟩ := first_calls HP1.out (by omega)
  have HB := Aside0.mk hbest
  have HF := Aside0.mk hfi
  clear h LKo hbest hfi
  by_cases hM : M = []
  · have hr : r = -1 := by
      rcases HB.out with ⟨_, h⟩ | ⟨j, x, hj, _⟩
      · exact h
      · rw [hM] at hj; simp at hj
    subst hr
    have hL : L = [] := List.eq_nil_of_length_eq_zero (by rw [hlen, hM]; rfl)
    have HE := Aside0.mk hL
    clear hM hL
    go_enter Try.func20, Try.ntmps20
    go_wp2_with fail
    refine HF.out.mono ?_
    rintro e w2 ⟨rfl, K2⟩
    have hx2 := blk_kp HBX.out K2 (fun h => h)
    have x0 : w2.cell? ⟨wr.heap.size, 0, none⟩ = some (.int .i64 4) := (blk_cell hx2 0).trans rfl
    have HX2 := Aside0.mk hx2
    have HP2 := Aside0.mk (HP1.out.kept K2)
    clear K2 hx2 HF
    go_wp2_with fail
    refine (Hii.peek_nil HP2.out.st.rep HE.out).mono ?_
    rintro e w' ⟨rfl, rfl⟩
    go_wp2
    go_ret2
    exact post_intro HP2.out (by omega) (by omega) (by omega) (fun _ => by have := HE.out; rw [this] at hlen; simp at hlen; omega)
  · obtain ⟨x, hx⟩ : ∃ x, L[0]? = some x := ⟨_, List.getElem?_eq_getElem (by rw [hlen]; exact List.length_pos_iff.2 hM)⟩
    obtain ⟨j, rfl, hj⟩ := best_heap HP1.out.st.heap HP1.out.perm HP1.out.sort HB.out hx
    have HX := Aside0.mk hx
    have HI := Aside0.mk hj
    have hil : j < M.length := (List.getElem?_eq_some_iff.1 hj).1
    clear hM hx hj HB
    go_enter Try.func20, Try.ntmps20
    go_wp2_with fail
    refine HF.out.mono ?_
    rintro e w2 ⟨rfl, K2⟩
    have hx2 := blk_kp HBX.out K2 (fun h => h)
    have x0 : w2.cell? ⟨wr.heap.size, 0, none⟩ = some (.int .i64 4) := (blk_cell hx2 0).trans rfl
    have HX2 := Aside0.mk hx2
    have HP2 := Aside0.mk (HP1.out.kept K2)
    clear K2 hx2 HF
    go_wp2_with fail
    refine (Hii.peek_cons HP2.out.st.rep HX.out).mono ?_
    rintro e w5 ⟨rfl, K5⟩
    have hx5 := blk_kp HX2.out K5 (fun h => h)
    have y0 : w5.cell? ⟨wr.heap.size, 0, none⟩ = some (.int .i64 4) := (blk_cell hx5 0).trans rfl
    have HP5 := Aside0.mk (HP2.out.kept K5)
    clear K5 hx5 x0
    obtain ⟨ad, rfl, hx0, hx1⟩ := at_T73 (Kd.R_reads' HP5.out.row).2.2 (j : Int) (by omega) (by rw [ref_len]; omega)
    rw [rd_get HI.out] at hx0 hx1
    rw [Int.toNat_natCast] at hx0 hx1
    simp only at hx0 hx1
    go_wp2
    go_ret2
    exact post_intro HP5.out (by omega) (by omega) (by omega) (fun h => by cases h)

set_option maxHeartbeats 2000000 in
set_option maxRecDepth 100000 in
theorem step_other {w wr : World} {hb pb : Nat} {lv sv v : Value} {L M : List (It Int Int)} {c : Int} (h : Pl w wr hb pb lv sv L c v M) (LKo : LK lv w.heap.size) (hn : M.length < 1000000) (o : Int) (h1 : (o == 1) = false) (h2 : (o == 2) = false) (h3 : (o == 3) = false) (h4 : (o == 4) = false) (h5 : (o == 5) = false) (h6 : (o == 6) = false) (k p : Int) :
    Calls Try.prog 20 #[.pointer (some ⟨hb, 0, none⟩), v, .agg #[.int .i64 o, .int .i64 k, .int .i64 p]] wr fun e w' => Post w hb pb lv c M false e w' := by
  have HP1 := Aside0.mk (h.kept ((Kp.refl wr (fun _ => False)).alloc (.cells #[.int .i64 o, .int .i64 k, .int .i64 p] 36)))
  have HBX := Aside0.mk (box_at wr (.int .i64 o) (.int .i64 k) (.int .i64 p))
  have HL := Aside0.mk LKo
  have hlen := h.perm.length_eq
  obtain ⟨A, cp, rfl, _⟩ := at_calls HP1.out (by omega) k
  obtain ⟨r, hbest, hfi⟩ := first_calls HP1.out (by omega)
  have HB := Aside0.mk hbest
  have HF := Aside0.mk hfi
  clear h LKo hbest hfi
  have hle := HP1.out.perm.length_eq
  go_enter Try.func20, Try.ntmps20
  go_wp2_with fail
  refine HF.out.mono ?_
  rintro e w2 ⟨rfl, K2⟩
  have hx2 := blk_kp HBX.out K2 (fun h => h)
  have x0 : w2.cell? ⟨wr.heap.size, 0, none⟩ = some (.int .i64 o) := (blk_cell hx2 0).trans rfl
  have HX2 := Aside0.mk hx2
  have HP2 := Aside0.mk (HP1.out.kept K2)
  clear K2 hx2 HF
  have HLE := Aside0.mk hle
  clear hle
  go_wp2_with fail
  refine (Hii.len_calls HP2.out.st.rep).mono ?_
  rintro e w' ⟨rfl, rfl⟩
  rw [HLE.out]
  go_wp2
  go_ret2
  exact post_intro HP2.out (by omega) (by omega) (by omega) (fun h => by cases h)
end Go.Proofs.Ytiblnccbeefdkaa.Pl
namespace Go.Proofs.Ytiblnccbeefdkaa.Pl
open Go.RowKit Go.Proofs.YtiblnccbeefdkaaW.PrintWords Go.Proofs.Ytiblnccbeefdkaa.Mp Go.Proofs.Ytiblnccbeefdkaa.Hp Go.Proofs.Ytiblnccbeefdkaa.Aw Go.Proofs.Ytiblnccbeefdkaa.Ls Go.Proofs.Ytiblnccbeefdkaa.Hy Go.Proofs.Ytiblnccbeefdkaa.PHeapPlays
set_option linter.unusedVariables false

theorem post_weak {w w' : World} {hb pb : Nat} {lv : Value} {c : Int} {M : List (It Int Int)} {b : Bool} {e : Ending} (h : Post w hb pb lv c M b e w') : Post w hb pb lv c M false e w' := by
  obtain ⟨v', sv', L', c', M', he, h1, h2, h3, h4, _⟩ := h
  exact ⟨v', sv', L', c', M', he, h1, h2, h3, h4, fun h => by cases h⟩
theorem step_any {w wr : World} {hb pb : Nat} {lv sv v : Value} {L M : List (It Int Int)} {c : Int} (h : Pl w wr hb pb lv sv L c v M) (LKo : LK lv w.heap.size) (hn : M.length < 1000000) (hc0 : 0 ≤ c) (hc1 : c < 4611686018427387904) (o k p : Int) :
    Calls Try.prog 20 #[.pointer (some ⟨hb, 0, none⟩), v, .agg #[.int .i64 o, .int .i64 k, .int .i64 p]] wr fun e w' => Post w hb pb lv c M false e w' := by
  by_cases h1 : o = 1
  · subst h1; exact step_push h LKo hn hc0 hc1 k p
  by_cases h2 : o = 2
  · subst h2; exact step_lower h LKo hn k p
  by_cases h3 : o = 3
  · subst h3; exact (step_pop h LKo hn k p).mono fun _ _ h => post_weak h
  by_cases h4 : o = 4
  · subst h4; exact step_peek h LKo hn k p
  by_cases h5 : o = 5
  · subst h5; exact step_get h hn k p
  by_cases h6 : o = 6
  · subst h6; exact step_drop h LKo hn k p
  have b : ∀ n : Int, o ≠ n → (o == n) = false := fun n h => beq_eq_false_iff_ne.2 h
  exact step_other h LKo hn o (b _ h1) (b _ h2) (b _ h3) (b _ h4) (b _ h5) (b _ h6) k p
def sliceLen : Value → Nat
  | .slice _ n _ => n
  | _ => 0

set_option maxHeartbeats 4000000 in
set_option maxRecDepth 100000 in
theorem plays_calls (A : Option Addr) (len cap : Nat) (T : Nat → Int × Int × Int) (w : World) (hlc : len ≤ cap) (hcm : cap ≤ maxLen)
    (hT : ∀ i, i < len → ∃ a, A = some a ∧ w.cell? (a.add (i * 3)) = some (.int .i64 (T i).1) ∧ w.cell? (a.add (i * 3 + 1)) = some (.int .i64 (T i).2.1) ∧ w.cell? (a.add (i * 3 + 2)) = some (.int .i64 (T i).2.2) ∧ (Lit.int .i64 (T i).1).wf = true ∧ (Lit.int .i64 (T i).2.1).wf = true ∧ (Lit.int .i64 (T i).2.2).wf = true) :
    Calls Try.prog 6 #[.slice A len cap] w fun e w' => e = .returned (.bool true) ∧ Kp w w' (fun _ => False) := by
  have hl : len ≤ 9223372036854775807 := by unfold maxLen at hcm; omega
  have HT := Aside0.mk hT
  have HL := Aside0.mk (ok19 w.heap.size)
  clear hT hcm hlc
  go_enter Try.func6, Try.ntmps6
  go_wp2_with fail
  refine (Hii.new_calls 19 #[] w).mono ?_
  rintro e w1 ⟨rfl, R1, K1⟩
  have S1 := Aside0.mk (st_new R1 K1)
  clear R1 K1
  go_wp2_with fail
  refine (awake_calls w1).mono ?_
  rintro e w2 ⟨rfl, K2⟩
  have S2 := Aside0.mk (st_kept S1.out K2)
  clear K2 S1
  go_wp2_with fail
  go_loopw [4, 5] (fun mv iv wr => ∃ (i : Nat), i ≤ len ∧ i ≤ 400 ∧ iv = .int .i64 i ∧ Aside0 (∃ sv L c M, Pl w wr (w.heap.size + 1) w.heap.size (.func (.func 19) #[] #[]) sv L c mv M ∧ 0 ≤ c ∧ c ≤ i ∧ M.length ≤ i)) (fun _ iv _ => len - (intOf iv).toNat)
  case atStart => exact ⟨0, by omega, by omega, rfl, ⟨_, _, 0, [], ⟨S2.out, List.Perm.refl _, List.Pairwise.nil, by simp, Kd.R_nil _ _ _ _ _⟩, by omega, by omega, by simp⟩⟩
  case round =>
    clear S2
    obtain ⟨i, hi, hi4, rfl, HS⟩ := hrel
    by_cases hlt : i < len ∧ i < 400
    · obtain ⟨h1, h2⟩ := hlt
      obtain ⟨sv, L, c, M, P, hc0, hc1, hM⟩ := HS.out
      obtain ⟨a, rfl, e0, e1, e2, _, _, _⟩ := HT.out i h1
      have c0 := cell_kp e0 P.st.kept (fun h => h)
      have c1 := cell_kp e1 P.st.kept (fun h => h)
      have c2 := cell_kp e2 P.st.kept (fun h => h)
      rw [add_field _ _ 1 (by omega)] at c1
      rw [add_field _ _ 2 (by omega)] at c2
      have HP := Aside0.mk P
      generalize T i = t at *
      obtain ⟨t1, t2, t3⟩ := t
      simp only at c0 c1 c2
      clear P HS e0 e1 e2
      go_wp2_with fail
      refine (step_any HP.out HL.out (by omega) hc0 (by omega) t1 t2 t3).mono ?_
      rintro e w5 ⟨v', sv', L', c', M', rfl, P', q1, q2, q3, _⟩
      obtain ⟨A', cp', rfl⟩ := Kd.R_slice P'.row
      have HP' := Aside0.mk P'
      clear P'
      rw [ref_len]
      go_wp2_with fail
      refine (Hii.len_calls HP'.out.st.rep).mono ?_
      rintro e w' ⟨rfl, rfl⟩
      rw [HP'.out.perm.length_eq]
      have FIN : Aside0 (∃ sv L c M, Pl w w5 (w.heap.size + 1) w.heap.size (.func (.func 19) #[] #[]) sv L c (.slice A' M'.length cp') M ∧ 0 ≤ c ∧ c ≤ ((i + 1 : Nat) : Int) ∧ M.length ≤ i + 1) := ⟨sv', L', c', M', by have h := HP'.out; rw [ref_len] at h; exact h, by omega, by omega, by omega⟩
      generalize M'.length = ml at *
      clear HP HP'
      go_wp2
      go_roundw
      case measure => simp [intOf]; omega
      case rel => exact ⟨i + 1, by omega, by omega, by go_num, FIN⟩
    · have HS2 : Aside0 (∃ sv L c M, Pl w wr (w.heap.size + 1) w.heap.size (.func (.func 19) #[] #[]) sv L c u4 M ∧ M.length ≤ 400) := ⟨by
        obtain ⟨sv, L, c, M, P, _, _, hM⟩ := HS.out
        exact ⟨sv, L, c, M, P, by omega⟩⟩
      clear HS
      have hor : ¬ i < len ∨ (i < len ∧ ¬ i < 400) := by omega
      rcases hor with hn | ⟨hn, hn2⟩
      · clear hlt
        go_wp2_with fail
        go_loopw [4] (fun mv wr => Aside0 (∃ sv L c M, Pl w wr (w.heap.size + 1) w.heap.size (.func (.func 19) #[] #[]) sv L c mv M ∧ M.length ≤ 400)) (fun mv _ => sliceLen mv)
        case atStart => exact HS2
        case round =>
          clear HS2
          obtain ⟨sv, L, c, M, P, hM⟩ := hrel.out
          obtain ⟨A', cp', e'⟩ := Kd.R_slice P.row
          rw [ref_len] at e'
          subst e'
          have HP := Aside0.mk P
          clear P
          by_cases hpos : 0 < M.length
          · go_wp2_with fail
            refine (step_pop HP.out HL.out (by omega) 0 0).mono ?_
            rintro e w5 ⟨v', sv', L', c', M', rfl, P', q1, q2, q3, q4⟩
            obtain ⟨A2, cp2, e2⟩ := Kd.R_slice P'.row
            rw [ref_len] at e2
            subst e2
            have FIN : Aside0 (∃ sv L c M, Pl w w5 (w.heap.size + 1) w.heap.size (.func (.func 19) #[] #[]) sv L c (.slice A2 M'.length cp2) M ∧ M.length ≤ 400) := ⟨sv', L', c', M', P', by have := q4 rfl; omega⟩
            have HQ := Aside0.mk (q4 rfl)
            clear P' HP q4
            go_wp2
            go_roundw
            case measure => have := HQ.out; simp [sliceLen]; omega
            case rel => exact FIN
          · have hM0 : M.length = 0 := by omega
            have HM0 := Aside0.mk hM0
            go_wp2_with fail
            refine (Hii.len_calls HP.out.st.rep).mono ?_
            rintro e w' ⟨rfl, rfl⟩
            rw [HP.out.perm.length_eq, HM0.out]
            go_wp2
            go_ret
            exact ⟨rfl, HP.out.st.kept⟩
      · clear hlt
        go_wp2_with fail
        go_loopw [4] (fun mv wr => Aside0 (∃ sv L c M, Pl w wr (w.heap.size + 1) w.heap.size (.func (.func 19) #[] #[]) sv L c mv M ∧ M.length ≤ 400)) (fun mv _ => sliceLen mv)
        case atStart => exact HS2
        case round =>
          clear HS2
          obtain ⟨sv, L, c, M, P, hM⟩ := hrel.out
          obtain ⟨A', cp', e'⟩ := Kd.R_slice P.row
          rw [ref_len] at e'
          subst e'
          have HP := Aside0.mk P
          clear P
          by_cases hpos : 0 < M.length
          · go_wp2_with fail
            refine (step_pop HP.out HL.out (by omega) 0 0).mono ?_
            rintro e w5 ⟨v', sv', L', c', M', rfl, P', q1, q2, q3, q4⟩
            obtain ⟨A2, cp2, e2⟩ := Kd.R_slice P'.row
            rw [ref_len] at e2
            subst e2
            have FIN : Aside0 (∃ sv L c M, Pl w w5 (w.heap.size + 1) w.heap.size (.func (.func 19) #[] #[]) sv L c (.slice A2 M'.length cp2) M ∧ M.length ≤ 400) := ⟨sv', L', c', M', P', by have := q4 rfl; omega⟩
            have HQ := Aside0.mk (q4 rfl)
            clear P' HP q4
            go_wp2
            go_roundw
            case measure => have := HQ.out; simp [sliceLen]; omega
            case rel => exact FIN
          · have hM0 : M.length = 0 := by omega
            have HM0 := Aside0.mk hM0
            go_wp2_with fail
            refine (Hii.len_calls HP.out.st.rep).mono ?_
            rintro e w' ⟨rfl, rfl⟩
            rw [HP.out.perm.length_eq, HM0.out]
            go_wp2
            go_ret
            exact ⟨rfl, HP.out.st.kept⟩
theorem plays (A : Option Addr) (len cap : Nat) (T : Nat → Int × Int × Int) (w : World) (hlc : len ≤ cap) (hcm : cap ≤ maxLen)
    (hT : ∀ i, i < len → ∃ a, A = some a ∧ w.cell? (a.add (i * 3)) = some (.int .i64 (T i).1) ∧ w.cell? (a.add (i * 3 + 1)) = some (.int .i64 (T i).2.1) ∧ w.cell? (a.add (i * 3 + 2)) = some (.int .i64 (T i).2.2) ∧ (Lit.int .i64 (T i).1).wf = true ∧ (Lit.int .i64 (T i).2.1).wf = true ∧ (Lit.int .i64 (T i).2.2).wf = true) :
    Calls Try.prog 6 #[.slice A len cap] w fun e w' => e = .returned (.bool true) ∧ Below w.heap.size w w' :=
  (plays_calls A len cap T w hlc hcm hT).mono fun _ _ h => ⟨h.1, h.2.to_below⟩
end Go.Proofs.Ytiblnccbeefdkaa.Pl
