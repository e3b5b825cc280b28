/- This text says how a table of places lies in memory, and what its calls do to it, in plain words. -/
import Derived.Test.YtiocnkoogachkaaGii
import Derived.Test.YtiocnkoogachkaaHz
namespace Go.Proofs.Ytiocnkoogachkaa.Tg
open Go.RowKit Go.Proofs.YtiocnkoogachkaaW.PrintWords Go.Proofs.Ytiocnkoogachkaa.Mp Go.Proofs.Ytiocnkoogachkaa.Hp
set_option linter.unusedVariables false
/-- A step: what is written lies in S, what is written next lies there too or is new. -/
structure Step (w w2 : World) (S S2 : Nat → Prop) : Prop where
  kp : Kp w w2 S
  foot : ∀ k, S2 k → S k ∨ w.heap.size ≤ k
theorem Step.trans {w w2 w3 : World} {S S2 S3 : Nat → Prop} (h : Step w w2 S S2) (k : Step w2 w3 S2 S3) : Step w w3 S S3 :=
  ⟨h.kp.then_ k.kp h.foot, fun j hj => (k.foot j hj).elim (h.foot j) (fun hl => .inr (Nat.le_trans h.kp.size hl))⟩
theorem Step.quiet {w w2 : World} {S : Nat → Prop} (h : Kp w w2 (fun _ => False)) : Step w w2 S S := ⟨h.mono (fun _ h => h.elim), fun _ h => .inl h⟩
theorem row_kp' {W W2 : World} {base n s : Nat} {v : Value} {e : TypeId} {xs : List Value} {S : Nat → Prop} (h : W.ownsRow base e s v n xs) (hk : Kp W W2 S) (hg : ∀ b, v.ownBlock = some b → ¬ S b) : W2.ownsRow base e s v n xs := by
  rcases h.2 with ⟨hv, hn⟩ | ⟨g, cap, cur, hv, hrest⟩
  · exact ⟨h.1, .inl ⟨hv, hn⟩⟩
  · subst hv
    exact h.kept_ hk (hg g rfl)
section
variable {α : Type} {G : HForm α Bool} {w w2 : World} {base tb hb pb : Nat} {fv sv sv2 pv pv2 : Value} {most held held2 c c2 : Int} {Ps : List (It α Bool)} {L L2 : List (It Int Int)}
/-- A table lies in memory. -/
structure MR (G : HForm α Bool) (w : World) (base tb hb pb : Nat) (fv sv pv : Value) (most : Int) (Ps : List (It α Bool)) (L : List (It Int Int)) (c held : Int) : Prop where
  head : w.heap[tb]? = some (.cells #[.int .i64 most, pv, .pointer (some ⟨hb, 0, none⟩), .int .i64 held] G.st (0, 0))
  row : w.ownsRow base G.it G.sz pv Ps.length (flat G Ps)
  heap : Rep Hii.F w base hb pb fv sv L c
  tbase : base ≤ tb
  ths : ¬ Mine hb pb sv tb
  pts : ∀ b, pv.ownBlock = some b → b ≠ tb ∧ ¬ Mine hb pb sv b
/-- What a table's calls write. -/
def Ours (tb hb pb : Nat) (sv pv : Value) (k : Nat) : Prop := k = tb ∨ Mine hb pb sv k ∨ pv.ownBlock = some k
theorem MR.low (h : MR G w base tb hb pb fv sv pv most Ps L c held) : ∀ k, Ours tb hb pb sv pv k → base ≤ k := fun k hk => by
  rcases hk with rfl | (rfl | rfl | hk) | hk
  · exact h.tbase
  · exact h.heap.hbase
  · exact h.heap.pbase
  · exact own_base h.heap.own k hk
  · exact own_base h.row k hk
theorem MR.lt (h : MR G w base tb hb pb fv sv pv most Ps L c held) : ∀ k, Ours tb hb pb sv pv k → k < w.heap.size := fun k hk => by
  rcases hk with rfl | (rfl | rfl | hk) | hk
  · exact blk_lt h.head
  · exact blk_lt h.heap.head
  · exact h.heap.map.lt
  · exact own_lt h.heap.own k hk
  · exact own_lt h.row k hk
theorem MR.keep {S : Nat → Prop} (h : MR G w base tb hb pb fv sv pv most Ps L c held) (K : Kp w w2 S) (hS : ∀ k, S k → ¬ Ours tb hb pb sv pv k) : MR G w2 base tb hb pb fv sv pv most Ps L c held :=
  ⟨blk_kp h.head K (fun hk => hS _ hk (.inl rfl)), row_kp' h.row K (fun b hb hs => hS b hs (.inr (.inr hb))), h.heap.kept K (fun k hk hm => hS k hk (.inr (.inl hm))), h.tbase, h.ths, h.pts⟩
theorem MR.stay (h : MR G w base tb hb pb fv sv pv most Ps L c held) (K : Kp w w2 (fun _ => False)) : MR G w2 base tb hb pb fv sv pv most Ps L c held := h.keep K (fun _ h => h.elim)
theorem MR.heapTo (h : MR G w base tb hb pb fv sv pv most Ps L c held) (R : Rep Hii.F w2 base hb pb fv sv2 L2 c2) (K : Kp w w2 (fun k => Mine hb pb sv k ∨ False)) (O : ∀ b, sv2.ownBlock = some b → sv.ownBlock = some b ∨ w.heap.size ≤ b) :
    MR G w2 base tb hb pb fv sv2 pv most Ps L2 c2 held ∧ Step w w2 (Ours tb hb pb sv pv) (Ours tb hb pb sv2 pv) := by
  have hM : ∀ k, Mine hb pb sv2 k → Mine hb pb sv k ∨ w.heap.size ≤ k := fun k hk => by
    rcases hk with hk | hk | hk
    · exact .inl (.inl hk)
    · exact .inl (.inr (.inl hk))
    · exact (O k hk).imp (fun h => .inr (.inr h)) id
  refine ⟨⟨blk_kp h.head K (fun hk => hk.elim h.ths id), row_kp' h.row K (fun b hb hs => hs.elim (h.pts b hb).2 id), R, h.tbase, fun hk => (hM _ hk).elim h.ths (fun hl => ?_), fun b hb => ⟨(h.pts b hb).1, fun hk => (hM _ hk).elim (h.pts b hb).2 (fun hl => ?_)⟩⟩, ⟨K.mono (fun k hk => .inr (.inl (hk.elim id False.elim))), fun k hk => ?_⟩⟩
  · have := blk_lt h.head; omega
  · have := own_lt h.row b hb; omega
  · rcases hk with hk | hk | hk
    · exact .inl (.inl hk)
    · exact (hM k hk).imp (fun h => .inr (.inl h)) id
    · exact .inl (.inr (.inr hk))
theorem MR.slice (h : MR G w base tb hb pb fv sv pv most Ps L c held) : ∃ a cap, pv = .slice a Ps.length cap := by
  rcases h.row.2 with ⟨hv, e⟩ | ⟨g, cap, _, e, _⟩
  · exact ⟨none, 0, by rw [hv, e]⟩
  · exact ⟨_, _, e⟩
theorem MR.slice' (h : MR G w base tb hb pb fv sv pv most Ps L c held) (hn : 0 < Ps.length) : ∃ g cap, pv = .slice (some ⟨g, 0, none⟩) Ps.length cap := by
  rcases h.row.2 with ⟨hv, e⟩ | ⟨g, cap, _, e, _⟩
  · omega
  · exact ⟨_, _, e⟩
theorem MR.setHeld (h : MR G w base tb hb pb fv sv pv most Ps L c held) (held2 : Int) :
    MR G (w.setCell ⟨tb, 3, none⟩ (.int .i64 held2)) base tb hb pb fv sv pv most Ps L c held2 ∧ Step w (w.setCell ⟨tb, 3, none⟩ (.int .i64 held2)) (Ours tb hb pb sv pv) (Ours tb hb pb sv pv) := by
  have K : Kp w (w.setCell ⟨tb, 3, none⟩ (.int .i64 held2)) (fun k => k = tb) := Kp.setCell (Kp.refl _ _) (by left; rfl) _
  refine ⟨⟨blk_put h.head 3 _ rfl, row_kp' h.row K (fun b hb hs => (h.pts b hb).1 hs), h.heap.kept K (fun k hk hm => h.ths (by rw [← hk]; exact hm)), h.tbase, h.ths, h.pts⟩, ⟨K.mono (fun k hk => .inl hk), fun k hk => .inl hk⟩⟩
theorem MR.putRow {g cap i : Nat} {y : It α Bool} {a b : Value} (h : MR G w base tb hb pb fv sv (.slice (some ⟨g, 0, none⟩) Ps.length cap) most Ps L c held) (hs : G.sz = 2) (hf : G.f y = [a, b]) (hi : i < Ps.length) :
    MR G ((w.setCell ⟨g, i * 2, none⟩ a).setCell ⟨g, i * 2 + 1, none⟩ b) base tb hb pb fv sv (.slice (some ⟨g, 0, none⟩) Ps.length cap) most (Ps.set i y) L c held ∧
      Step w ((w.setCell ⟨g, i * 2, none⟩ a).setCell ⟨g, i * 2 + 1, none⟩ b) (Ours tb hb pb sv (.slice (some ⟨g, 0, none⟩) Ps.length cap)) (Ours tb hb pb sv (.slice (some ⟨g, 0, none⟩) Ps.length cap)) := by
  have K : Kp w ((w.setCell ⟨g, i * 2, none⟩ a).setCell ⟨g, i * 2 + 1, none⟩ b) (fun k => k = g) := Kp.setCell (Kp.setCell (Kp.refl _ _) (by left; rfl) _) (by left; rfl) _
  have hg := h.pts g rfl
  have h1 := own_set h.row (i * 2) a
  have h2 := own_set h1 (i * 2 + 1) b
  have e : ((flat G Ps).set (i * 2) a).set (i * 2 + 1) b = flat G (Ps.set i y) := by
    have hl : (flat G Ps).length = Ps.length * 2 := by rw [flat_len, hs]
    have hlt : i * 2 + 2 ≤ Ps.length * 2 := by omega
    refine flat_set G Ps i y hi _ (by simp only [List.length_set]) ?_ ?_
    · intro k hk
      rw [hs] at hk ⊢
      rcases (show k = 0 ∨ k = 1 by omega) with rfl | rfl
      · change _[i * 2]? = _; rw [List.getElem?_set_ne (by omega), List.getElem?_set_self (by omega), hf]; rfl
      · rw [List.getElem?_set_self (by rw [List.length_set]; omega), hf]; rfl
    · intro m hm
      rw [hs] at hm
      rw [List.getElem?_set_ne (by omega), List.getElem?_set_ne (by omega)]
  rw [e] at h2
  refine ⟨⟨blk_kp h.head K (fun hk => hg.1 hk.symm), by rw [List.length_set]; exact h2, h.heap.kept K (fun k hk hm => hg.2 (by rw [← hk]; exact hm)), h.tbase, h.ths, h.pts⟩, ⟨K.mono (fun k hk => .inr (.inr (by rw [hk]; rfl))), fun k hk => .inl hk⟩⟩
theorem MR.grow {w1 : World} {v1 : Value} {y : It α Bool} (h : MR G w base tb hb pb fv sv pv most Ps L c held) (hown : w1.ownsRow base G.it G.sz v1 (Ps.length + 1) (flat G Ps ++ G.f y)) (hg : w.grownBy w1 pv.ownBlock) (hat : v1.ownBlock = pv.ownBlock ∨ ∃ b, v1.ownBlock = some b ∧ w.heap.size ≤ b) :
    MR G (w1.setCell ⟨tb, 1, none⟩ v1) base tb hb pb fv sv v1 most (Ps ++ [y]) L c held ∧ Step w (w1.setCell ⟨tb, 1, none⟩ v1) (Ours tb hb pb sv pv) (Ours tb hb pb sv v1) := by
  have K0 : Kp w w1 (fun q => pv.ownBlock = some q) := ⟨hg.size, fun k hk hn => hg.block k hk (fun e => hn e.symm), hg.os, hg.tape, hg.output⟩
  have K1 : Kp w1 (w1.setCell ⟨tb, 1, none⟩ v1) (fun k => k = tb) := Kp.setCell (Kp.refl _ _) (by left; rfl) _
  have hh := blk_kp h.head K0 (fun e => (h.pts tb e).1 rfl)
  have ho : ∀ b, v1.ownBlock = some b → pv.ownBlock = some b ∨ w.heap.size ≤ b := fun b hb => by
    rcases hat with e | ⟨b2, e, hb2⟩
    · exact .inl (by rw [← e]; exact hb)
    · rw [e] at hb; cases hb; exact .inr hb2
  have hpt : ∀ b, v1.ownBlock = some b → b ≠ tb ∧ ¬ Mine hb pb sv b := fun b hb => by
    rcases ho b hb with e | e
    · exact h.pts b e
    · refine ⟨fun e2 => ?_, fun hm => ?_⟩
      · have := h.lt tb (.inl rfl); omega
      · have := h.lt b (.inr (.inl hm)); omega
  refine ⟨⟨blk_put hh 1 _ rfl, ?_, (h.heap.kept K0 (fun k hk hm => (h.pts k hk).2 hm)).kept K1 (fun k hk hm => h.ths (by rw [← hk]; exact hm)), h.tbase, h.ths, hpt⟩, ⟨?_, fun k hk => ?_⟩⟩
  · rw [List.length_append, List.length_singleton, flat_app, flat_cons, flat_nil, List.append_nil]
    exact row_kp' hown K1 (fun b hb hs => (hpt b hb).1 hs)
  · exact (K0.mono (S' := Ours tb hb pb sv pv) (fun k hk => .inr (.inr hk))).then_ K1 (fun k hk => .inl (.inl hk))
  · rcases hk with hk | hk | hk
    · exact .inl (.inl hk)
    · exact .inl (.inr (.inl hk))
    · exact (ho k hk).imp (fun h => .inr (.inr h)) id
theorem MR.cellK {j : Nat} {x : It α Bool} {g cap k : Nat} {v : Value} (h : MR G w base tb hb pb fv sv (.slice (some ⟨g, 0, none⟩) Ps.length cap) most Ps L c held) (hx : Ps[j]? = some x) (hk : k < G.sz) (hv : (G.f x)[k]? = some v) : w.cell? ⟨g, j * G.sz + k, none⟩ = some v :=
  own_cell h.row _ _ ((flat_get G Ps j k x hx hk).trans hv)
/-- What holds of a table's places and of its heap of freed numbers. -/
structure PI (z : α) (most : Nat) (Ps : List (It α Bool)) (L : List (It Int Int)) (held : Int) : Prop where
  hH : Heap L
  rk : ∀ x, x ∈ L → x.rank = x.key
  free : ∀ k : Int, k ∈ keys L ↔ ∃ j : Nat, k = (j : Int) + 1 ∧ ∃ x, Ps[j]? = some x ∧ x.rank = false
  zero : ∀ x, x ∈ Ps → x.rank = false → x.key = z
  cnt : held = (Ps.countP (fun x => x.rank) : Int)
  le : Ps.length ≤ most
/-- The least free number. -/
def freeOf (Ps : List (It α Bool)) (most : Nat) : Nat :=
  match Ps.findIdx? (fun x => !x.rank) with
  | some j => j + 1
  | none => if Ps.length < most then Ps.length + 1 else 0
variable {z : α} {m : Nat}
theorem PI.nil (z : α) (m : Nat) : PI z m [] [] 0 := ⟨heap_nil, fun _ h => (by cases h), fun k => ⟨fun h => (by cases h), fun ⟨j, _, x, h, _⟩ => (by simp at h)⟩, fun _ h => (by cases h), rfl, Nat.zero_le _⟩
theorem PI.first (h : PI z m Ps L held) {x : It Int Int} (hx : L[0]? = some x) : ∃ (j : Nat) (p : It α Bool), x.key = (j : Int) + 1 ∧ Ps[j]? = some p ∧ p.rank = false ∧ freeOf Ps m = j + 1 := by
  obtain ⟨j, hj, p, hp, hr⟩ := (h.free x.key).1 (List.mem_map_of_mem (List.mem_of_getElem? hx))
  refine ⟨j, p, hj, hp, hr, ?_⟩
  have : Ps.findIdx? (fun x => !x.rank) = some j := by
    rw [List.findIdx?_eq_some_iff_getElem]
    have hlt := (List.getElem?_eq_some_iff.1 hp).1
    refine ⟨hlt, by rw [(List.getElem?_eq_some_iff.1 hp).2, hr]; rfl, fun i hi => ?_⟩
    intro hc
    have hi2 : i < Ps.length := by omega
    have hq : Ps[i]? = some Ps[i] := List.getElem?_eq_getElem hi2
    obtain ⟨y, hy, hyk⟩ := List.mem_map.1 ((h.free ((i : Int) + 1)).2 ⟨i, rfl, _, hq, by simpa using hc⟩)
    have h1 := h.hH.least_mem hx hy
    have h2 := h.rk x (List.mem_of_getElem? hx)
    have h3 := h.rk y hy
    apply h1
    left
    omega
  unfold freeOf
  rw [this]
theorem PI.empty (h : PI z m Ps [] held) : freeOf Ps m = if Ps.length < m then Ps.length + 1 else 0 := by
  have : Ps.findIdx? (fun x => !x.rank) = none := by
    rw [List.findIdx?_eq_none_iff]
    intro x hx
    obtain ⟨j, hj⟩ := List.getElem?_of_mem hx
    cases hr : x.rank with
    | true => rfl
    | false =>
      have := (h.free ((j : Int) + 1)).2 ⟨j, rfl, x, hj, hr⟩
      cases this
  unfold freeOf
  rw [this]
theorem PI.push (h : PI z m Ps L held) (hlt : Ps.length < m) (hH : Heap L2) (hP : L2.Perm (L ++ [⟨(Ps.length : Int) + 1, (Ps.length : Int) + 1, c⟩])) : PI z m (Ps ++ [⟨z, false, 0⟩]) L2 held := by
  refine ⟨hH, fun x hx => ?_, fun k => ?_, fun x hx hr => ?_, by rw [List.countP_append]; simpa using h.cnt, by rw [List.length_append]; simp; omega⟩
  · rcases List.mem_append.1 (hP.mem_iff.1 hx) with hx | hx
    · exact h.rk x hx
    · rw [List.mem_singleton.1 hx]
  · have : k ∈ keys L2 ↔ k ∈ keys L ∨ k = (Ps.length : Int) + 1 := by
      unfold keys
      rw [(hP.map _).mem_iff, List.map_append, List.mem_append]
      simp
    rw [this, h.free]
    constructor
    · rintro (⟨j, hj, x, hx, hr⟩ | hk)
      · exact ⟨j, hj, x, by rw [List.getElem?_append_left (List.getElem?_eq_some_iff.1 hx).1]; exact hx, hr⟩
      · exact ⟨Ps.length, hk, ⟨z, false, 0⟩, by simp, rfl⟩
    · rintro ⟨j, hj, x, hx, hr⟩
      rcases Nat.lt_or_ge j Ps.length with hl | hl
      · rw [List.getElem?_append_left hl] at hx
        exact .inl ⟨j, hj, x, hx, hr⟩
      · right
        have := (List.getElem?_eq_some_iff.1 hx).1
        rw [List.length_append, List.length_singleton] at this
        omega
  · rcases List.mem_append.1 hx with hx | hx
    · exact h.zero x hx hr
    · rw [List.mem_singleton.1 hx]
theorem cnt_set {i : Nat} {p q : It α Bool} (hp : Ps[i]? = some p) : ((Ps.set i q).countP (fun x => x.rank) : Int) = Ps.countP (fun x => x.rank) - (if p.rank then 1 else 0) + (if q.rank then 1 else 0) := by
  obtain ⟨hi, rfl⟩ := List.getElem?_eq_some_iff.1 hp
  rw [List.countP_set hi]
  have h1 : Ps[i].rank = true → 0 < Ps.countP (fun x => x.rank) := fun hr => List.countP_pos_iff.2 ⟨_, List.getElem_mem hi, hr⟩
  generalize Ps.countP (fun x => x.rank) = n at *
  cases hr : Ps[i].rank <;> cases hq : q.rank
  · simp
  · simp
  · have := h1 hr
    simp
    omega
  · have := h1 hr
    simp
    omega
theorem PI.put (h : PI z m Ps L held) {i : Nat} {p : It α Bool} {x : It Int Int} (a : α) (hp : Ps[i]? = some p) (hr : p.rank = false) (hn : (keys L).Nodup) (hH : Heap L2) (hP : (x :: L2).Perm L) (hx : x.key = (i : Int) + 1) : PI z m (Ps.set i ⟨a, true, 0⟩) L2 (held + 1) := by
  have hn2 : (keys (x :: L2)).Nodup := (hP.map _).nodup_iff.2 hn
  refine ⟨hH, fun y hy => h.rk y (hP.mem_iff.1 (List.mem_cons_of_mem _ hy)), fun k => ?_, fun y hy hry => ?_, by rw [cnt_set hp, hr, h.cnt]; simp, by rw [List.length_set]; exact h.le⟩
  · have hk : k ∈ keys L ↔ k = x.key ∨ k ∈ keys L2 := by
      unfold keys
      rw [← (hP.map _).mem_iff, List.map_cons, List.mem_cons]
    have hne : x.key ∉ keys L2 := by
      unfold keys at hn2
      rw [List.map_cons, List.nodup_cons] at hn2
      exact hn2.1
    have h2 : k ∈ keys L2 ↔ k ∈ keys L ∧ k ≠ x.key := ⟨fun hm => ⟨hk.2 (.inr hm), fun e => hne (by rw [← e]; exact hm)⟩, fun ⟨hm, he⟩ => (hk.1 hm).resolve_left he⟩
    rw [h2, h.free]
    constructor
    · rintro ⟨⟨j, hj, y, hy, hry⟩, hne⟩
      exact ⟨j, hj, y, by rw [List.getElem?_set_ne (by rintro rfl; omega)]; exact hy, hry⟩
    · rintro ⟨j, hj, y, hy, hry⟩
      by_cases e : i = j
      · subst e
        rw [List.getElem?_set_self (List.getElem?_eq_some_iff.1 hp).1] at hy
        cases hy
        cases hry
      · rw [List.getElem?_set_ne e] at hy
        exact ⟨⟨j, hj, y, hy, hry⟩, by omega⟩
  · rcases List.mem_or_eq_of_mem_set hy with hy | hy
    · exact h.zero y hy hry
    · rw [hy] at hry; cases hry
theorem PI.drop (h : PI z m Ps L held) {i : Nat} {p : It α Bool} (hp : Ps[i]? = some p) (hr : p.rank = true) (hH : Heap L2) (hP : L2.Perm (L ++ [⟨(i : Int) + 1, (i : Int) + 1, c⟩])) : PI z m (Ps.set i ⟨z, false, 0⟩) L2 (held - 1) := by
  refine ⟨hH, fun x hx => ?_, fun k => ?_, fun y hy hry => ?_, by rw [cnt_set hp, hr, h.cnt]; simp, by rw [List.length_set]; exact h.le⟩
  · rcases List.mem_append.1 (hP.mem_iff.1 hx) with hx | hx
    · exact h.rk x hx
    · rw [List.mem_singleton.1 hx]
  · have : k ∈ keys L2 ↔ k ∈ keys L ∨ k = (i : Int) + 1 := by
      unfold keys
      rw [(hP.map _).mem_iff, List.map_append, List.mem_append]
      simp
    rw [this, h.free]
    constructor
    · rintro (⟨j, hj, x, hx, hrx⟩ | hk)
      · refine ⟨j, hj, x, ?_, hrx⟩
        rw [List.getElem?_set_ne]
        · exact hx
        · rintro rfl
          rw [hp] at hx
          cases hx
          rw [hr] at hrx
          cases hrx
      · exact ⟨i, hk, ⟨z, false, 0⟩, by rw [List.getElem?_set_self (List.getElem?_eq_some_iff.1 hp).1], rfl⟩
    · rintro ⟨j, hj, x, hx, hrx⟩
      by_cases e : i = j
      · subst e; exact .inr hj
      · rw [List.getElem?_set_ne e] at hx
        exact .inl ⟨j, hj, x, hx, hrx⟩
  · rcases List.mem_or_eq_of_mem_set hy with hy | hy
    · exact h.zero y hy hry
    · rw [hy]
/-- A table at a point of a law that began in w0. -/
structure St (G : HForm α Bool) (w0 w : World) (tb hb pb : Nat) (fv : Value) (z : α) (m : Nat) (Ps : List (It α Bool)) (b : Nat) (held : Int) (S : Nat → Prop) : Prop where
  ex : ∃ sv pv L c, MR G w w0.heap.size tb hb pb fv sv pv (m : Int) Ps L c held ∧ PI z m Ps L held ∧ (L.length : Int) ≤ c ∧ c + m ≤ (b : Int) + Ps.length ∧ S = Ours tb hb pb sv pv
  kept : Kp w0 w (fun _ => False)
  small : m ≤ 65536
/-- What a call leaves. -/
def Nx (G : HForm α Bool) (w0 w w2 : World) (tb hb pb : Nat) (fv : Value) (z : α) (m : Nat) (Ps : List (It α Bool)) (b : Nat) (held : Int) (S : Nat → Prop) : Prop := ∃ S2, St G w0 w2 tb hb pb fv z m Ps b held S2 ∧ Step w w2 S S2
theorem St.quiet {w0 : World} {b : Nat} {S : Nat → Prop} (h : St G w0 w tb hb pb fv z m Ps b held S) (K : Kp w w2 (fun _ => False)) : Nx G w0 w w2 tb hb pb fv z m Ps b held S := by
  obtain ⟨sv, pv, L, c, h1, h2, h3, h4, h5⟩ := h.ex
  exact ⟨S, ⟨⟨sv, pv, L, c, h1.stay K, h2, h3, h4, h5⟩, h.kept.then_ K (fun _ h => h.elim), h.small⟩, Step.quiet K⟩
theorem St.low {w0 : World} {b : Nat} {S : Nat → Prop} (h : St G w0 w tb hb pb fv z m Ps b held S) : ∀ k, S k → w0.heap.size ≤ k := by
  obtain ⟨sv, pv, L, c, h1, h2, h3, h4, rfl⟩ := h.ex
  exact h1.low
theorem St.next {w0 : World} {b b2 : Nat} {S : Nat → Prop} {held2 : Int} {Ps2 : List (It α Bool)} (h : St G w0 w tb hb pb fv z m Ps b held S) (M : MR G w2 w0.heap.size tb hb pb fv sv2 pv2 (m : Int) Ps2 L2 c2 held2) (P : PI z m Ps2 L2 held2) (hl : (L2.length : Int) ≤ c2) (hc : c2 + m ≤ (b2 : Int) + Ps2.length) (T : Step w w2 S (Ours tb hb pb sv2 pv2)) : Nx G w0 w w2 tb hb pb fv z m Ps2 b2 held2 S :=
  ⟨_, ⟨⟨_, _, _, _, M, P, hl, hc, rfl⟩, h.kept.then_ T.kp (fun k hk => .inr (h.low k hk)), h.small⟩, T⟩
theorem Nx.trans {w0 w3 : World} {b2 b3 : Nat} {S : Nat → Prop} {held3 : Int} {Ps2 Ps3 : List (It α Bool)} (h : Nx G w0 w w2 tb hb pb fv z m Ps2 b2 held2 S) (k : ∀ S2, St G w0 w2 tb hb pb fv z m Ps2 b2 held2 S2 → Nx G w0 w2 w3 tb hb pb fv z m Ps3 b3 held3 S2) : Nx G w0 w w3 tb hb pb fv z m Ps3 b3 held3 S := by
  obtain ⟨S2, h1, h2⟩ := h
  obtain ⟨S3, h3, h4⟩ := k S2 h1
  exact ⟨S3, h3, h2.trans h4⟩
/-- The least number from i on where something stands. -/
def IsNext (Ps : List (It α Bool)) (i r : Int) : Prop :=
  (∃ (q : Nat) (p : It α Bool), r = (q : Int) + 1 ∧ max i 1 ≤ (q : Int) + 1 ∧ Ps[q]? = some p ∧ p.rank = true ∧ ∀ (j : Nat) (p2 : It α Bool), max i 1 ≤ (j : Int) + 1 → j < q → Ps[j]? = some p2 → p2.rank = false) ∨
  (r = 0 ∧ ∀ (j : Nat) (p : It α Bool), max i 1 ≤ (j : Int) + 1 → Ps[j]? = some p → p.rank = false)
/-- The places, made long enough. -/
def ext (z : α) (Ps : List (It α Bool)) (n : Nat) : List (It α Bool) := Ps ++ List.replicate (n - Ps.length) ⟨z, false, 0⟩
theorem ext_self (z : α) (Ps : List (It α Bool)) : ext z Ps Ps.length = Ps := by simp [ext]
theorem ext_len (z : α) (Ps : List (It α Bool)) {n : Nat} (h : Ps.length ≤ n) : (ext z Ps n).length = n := by simp [ext]; omega
theorem ext_succ (z : α) (Ps : List (It α Bool)) {n : Nat} (h : Ps.length ≤ n) : ext z Ps (n + 1) = ext z Ps n ++ [⟨z, false, 0⟩] := by
  unfold ext
  rw [show n + 1 - Ps.length = n - Ps.length + 1 by omega, List.replicate_succ', List.append_assoc]
theorem ext_old (z : α) (Ps : List (It α Bool)) {n : Nat} (h : n ≤ Ps.length) : ext z Ps n = Ps := by unfold ext; rw [show n - Ps.length = 0 by omega]; simp
theorem ext_at {z : α} {Ps : List (It α Bool)} {j : Nat} (hf : ∀ p, Ps[j]? = some p → p.rank = false) : ∃ p, (ext z Ps (j + 1))[j]? = some p ∧ p.rank = false := by
  rcases Nat.lt_or_ge j Ps.length with h | h
  · rw [ext_old z Ps (by omega)]
    exact ⟨_, List.getElem?_eq_getElem h, hf _ (List.getElem?_eq_getElem h)⟩
  · rw [ext_succ z Ps h]
    refine ⟨⟨z, false, 0⟩, ?_, rfl⟩
    rw [List.getElem?_append_right (by rw [ext_len z Ps h]; exact Nat.le_refl _), ext_len z Ps h, Nat.sub_self]
    rfl
theorem ext_max {z : α} {Ps : List (It α Bool)} {n j : Nat} (h1 : Ps.length ≤ n) (h2 : n ≤ max Ps.length (j + 1)) (h3 : ¬ n < j + 1) : ext z Ps n = ext z Ps (j + 1) := by
  rcases Nat.lt_or_ge j Ps.length with h | h
  · rw [ext_old z Ps (by omega), ext_old z Ps (by omega)]
  · rw [show n = j + 1 by omega]
theorem PI.held_le (P : PI z m Ps L held) : 0 ≤ held ∧ held ≤ (m : Int) := by
  have h1 := P.cnt
  have h2 := P.le
  have h3 := List.countP_le_length (p := fun x : It α Bool => x.rank) (l := Ps)
  omega
theorem key_new (P : PI z m Ps L held) : ((Ps.length : Int) + 1) ∉ keys L := fun hk => by
  obtain ⟨j, hj, x, hx, _⟩ := (P.free _).1 hk
  have := (List.getElem?_eq_some_iff.1 hx).1
  omega
theorem key_held (P : PI z m Ps L held) {i : Nat} {x : It α Bool} (hx : Ps[i]? = some x) (hr : x.rank = true) : ((i : Int) + 1) ∉ keys L := fun hk => by
  obtain ⟨j, hj, y, hy, hr2⟩ := (P.free _).1 hk
  obtain rfl : i = j := by omega
  rw [hx] at hy
  cases hy
  rw [hr] at hr2
  cases hr2
/-- How many lie in a table's row. -/
def lenAt (w : World) (tb : Nat) : Nat := match w.cell? ⟨tb, 1, none⟩ with
  | some (.slice _ n _) => n
  | _ => 0
theorem lenAt_eq {a : Option Addr} {n cap : Nat} (h : w.cell? ⟨tb, 1, none⟩ = some (.slice a n cap)) : lenAt w tb = n := by unfold lenAt; rw [h]
end
end Go.Proofs.Ytiocnkoogachkaa.Tg
