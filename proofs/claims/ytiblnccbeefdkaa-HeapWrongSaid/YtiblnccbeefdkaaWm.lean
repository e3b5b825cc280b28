/- This text says how the law HeapWrong's things lie in memory: the heap, the order's count, what is in, and what each key was given. -/
import Derived.Test.YtiblnccbeefdkaaWo
namespace Go.Proofs.Ytiblnccbeefdkaa.Wr
open Go.RowKit Go.Proofs.YtiblnccbeefdkaaW.PrintWords Go.Proofs.Ytiblnccbeefdkaa.Mp Go.Proofs.Ytiblnccbeefdkaa.Hp
set_option linter.unusedVariables false

theorem row_kp {w w2 : World} {base n s : Nat} {v : Value} {e : TypeId} {xs : List Value} {S : Nat → Prop} (h : w.ownsRow base e s v n xs) (hk : Kp w w2 S) (hS : ∀ b, v.ownBlock = some b → ¬ S b) : w2.ownsRow base e s v n xs := by
  rcases h.2 with ⟨hv, hn⟩ | ⟨g, cap, cur, rfl, hg⟩
  · exact ⟨h.1, .inl ⟨hv, hn⟩⟩
  · exact World.ownsRow.kept_ h hk (hS g rfl)
theorem row_blk {w : World} {base n s b : Nat} {v : Value} {e : TypeId} {xs : List Value} (h : w.ownsRow base e s v n xs) (hb : v.ownBlock = some b) : base ≤ b ∧ b < w.heap.size := by
  rcases h.2 with ⟨hv, hn⟩ | ⟨g, cap, cur, rfl, h1, h2, _⟩
  · rw [hv] at hb; cases hb
  · cases hb; exact ⟨h1, blk_lt h2⟩

def upd {α : Type} (f : Nat → α) (k : Nat) (a : α) : Nat → α := fun i => if i = k then a else f i
theorem upd_self {α : Type} (f : Nat → α) (k : Nat) (a : α) : upd f k a k = a := by simp [upd]
theorem upd_ne {α : Type} (f : Nat → α) {k i : Nat} (a : α) (h : i ≠ k) : upd f k a i = f i := by simp [upd, h]
theorem range_set {α : Type} (f : Nat → α) (k : Nat) (a : α) (n : Nat) (hk : k < n) : ((List.range n).map f).set k a = (List.range n).map (upd f k a) := by
  apply List.ext_getElem?
  intro i
  by_cases h : k = i
  · subst h
    rw [List.getElem?_set_self (by simpa using hk)]
    simp [hk, upd]
  · rw [List.getElem?_set_ne h]
    by_cases hi : i < n
    · simp [hi, upd, Ne.symm h]
    · simp [hi]

/-- The blocks that the law has in hand. -/
def D (hb pb : Nat) (sv : Value) (bi bg : Nat) (V : Nat → Value) : Nat → Option Nat
  | 0 => some hb
  | 1 => some pb
  | 2 => sv.ownBlock
  | 3 => some bi
  | 4 => some bg
  | n + 5 => (V n).ownBlock
theorem D_upd_ne (hb pb : Nat) (sv : Value) (bi bg : Nat) (V : Nat → Value) (k : Nat) (v : Value) {i : Nat} (h : i ≠ k + 5) : D hb pb sv bi bg (upd V k v) i = D hb pb sv bi bg V i := by
  match i with
  | 0 | 1 | 2 | 3 | 4 => rfl
  | n + 5 => simp only [D]; rw [upd_ne _ _ (by omega)]
theorem D_upd_self (hb pb : Nat) (sv : Value) (bi bg : Nat) (V : Nat → Value) (k : Nat) (v : Value) : D hb pb sv bi bg (upd V k v) (k + 5) = v.ownBlock := by
  simp only [D]; rw [upd_self]

/-- How all lies. -/
structure Wm (w : World) (As : Option Addr) (ls cs : Nat) (Bf : Nat → Bool) (lv : Value) (hb pb bi bg : Nat) (wr : World) (sv : Value) (L : List (It Int Int)) (c : Int) (I : Nat → Bool) (G : Nat → List Int) (V : Nat → Value) (b : Nat) : Prop where
  rep : Rep Hii.F wr (w.heap.size + 2) hb pb lv sv L c
  j : JW (w.heap.size + 1) w.heap.size As ls cs Bf b wr
  inb : wr.heap[bi]? = some (.cells ((List.range 16).map (fun i => Value.bool (I i))).toArray 33 (0, 0))
  gvb : wr.heap[bg]? = some (.cells ((List.range 16).map V).toArray 34 (0, 0))
  rows : ∀ i, wr.ownsRow (w.heap.size + 2) 3 1 (V i) (G i).length ((G i).map (Value.int .i64))
  sep : ∀ i j q, D hb pb sv bi bg V i = some q → D hb pb sv bi bg V j = some q → i = j
  low : ∀ i q, D hb pb sv bi bg V i = some q → w.heap.size + 2 ≤ q ∧ q < wr.heap.size
  kept : Kp w wr (fun _ => False)

section
variable {w : World} {As : Option Addr} {ls cs : Nat} {Bf : Nat → Bool} {lv : Value} {hb pb bi bg : Nat} {wr w2 : World} {sv sv2 : Value} {L L2 : List (It Int Int)} {c c2 : Int} {I : Nat → Bool} {G : Nat → List Int} {V : Nat → Value} {b b2 : Nat}
theorem Wm.ne (h : Wm w As ls cs Bf lv hb pb bi bg wr sv L c I G V b) {i j q r : Nat} (hi : D hb pb sv bi bg V i = some q) (hj : D hb pb sv bi bg V j = some r) (hne : i ≠ j) : q ≠ r := fun e => hne (h.sep i j q hi (e ▸ hj))
theorem Wm.stay (h : Wm w As ls cs Bf lv hb pb bi bg wr sv L c I G V b) (K : Kp wr w2 (fun _ => False)) : Wm w As ls cs Bf lv hb pb bi bg w2 sv L c I G V b where
  rep := h.rep.kept K (fun _ h => h.elim)
  j := h.j.kept (base := w.heap.size + 2) (by omega) (by omega) (fun i hi => K.keep i (by have := h.kept.size; have := (h.low 0 _ rfl); omega) (fun h => h))
  inb := blk_kp h.inb K (fun h => h)
  gvb := blk_kp h.gvb K (fun h => h)
  rows i := row_kp (h.rows i) K (fun _ _ h => h)
  sep := h.sep
  low i q hq := ⟨(h.low i q hq).1, Nat.lt_of_lt_of_le (h.low i q hq).2 K.size⟩
  kept := h.kept.then_ K (fun _ h => h.elim)
theorem Wm.heap (h : Wm w As ls cs Bf lv hb pb bi bg wr sv L c I G V b) (K : Kp wr w2 (fun k => Mine hb pb sv k ∨ k = w.heap.size + 1)) (R : Rep Hii.F w2 (w.heap.size + 2) hb pb lv sv2 L2 c2) (J : JW (w.heap.size + 1) w.heap.size As ls cs Bf b2 w2)
    (F : ∀ q, sv2.ownBlock = some q → sv.ownBlock = some q ∨ wr.heap.size ≤ q) : Wm w As ls cs Bf lv hb pb bi bg w2 sv2 L2 c2 I G V b2 := by
  have hS : ∀ i q, 3 ≤ i → D hb pb sv bi bg V i = some q → ¬ (Mine hb pb sv q ∨ q = w.heap.size + 1) := by
    intro i q hi hq
    rintro ((e | e | e) | e)
    · have := h.sep i 0 q hq (by rw [e]; rfl); omega
    · have := h.sep i 1 q hq (by rw [e]; rfl); omega
    · have := h.sep i 2 q hq e; omega
    · have := (h.low i q hq).1; omega
  have hD : ∀ i, i ≠ 2 → D hb pb sv2 bi bg V i = D hb pb sv bi bg V i := fun i hi => by
    match i with
    | 0 | 1 | 3 | 4 => rfl
    | n + 5 => rfl
  have h2 : ∀ q, D hb pb sv2 bi bg V 2 = some q → ∀ i, i ≠ 2 → D hb pb sv bi bg V i ≠ some q := fun q hq i hi he => by
    rcases F q hq with hf | hf
    · exact hi (h.sep i 2 q he hf)
    · have := (h.low i q he).2; omega
  refine ⟨R, J, blk_kp h.inb K (hS 3 bi (by omega) rfl), blk_kp h.gvb K (hS 4 bg (by omega) rfl), fun i => row_kp (h.rows i) K (fun q hq => hS (i + 5) q (by omega) hq), ?_, ?_, ?_⟩
  · intro i j q hi hj
    by_cases e1 : i = 2
    · by_cases e2 : j = 2
      · omega
      · subst e1
        rw [hD j e2] at hj
        exact absurd hj (h2 q hi j e2)
    · rw [hD i e1] at hi
      by_cases e2 : j = 2
      · subst e2
        exact absurd hi (h2 q hj i e1)
      · rw [hD j e2] at hj
        exact h.sep i j q hi hj
  · intro i q hi
    by_cases e1 : i = 2
    · subst e1
      exact row_blk R.own hi
    · rw [hD i e1] at hi
      exact ⟨(h.low i q hi).1, Nat.lt_of_lt_of_le (h.low i q hi).2 K.size⟩
  · refine h.kept.then_ K (fun k hk => .inr ?_)
    rcases hk with (rfl | rfl | hk) | rfl
    · have := (h.low 0 _ rfl).1; omega
    · have := (h.low 1 _ rfl).1; omega
    · have := (h.low 2 _ hk).1; omega
    · omega
theorem Wm.setI (h : Wm w As ls cs Bf lv hb pb bi bg wr sv L c I G V b) {k : Nat} (hk : k < 16) (v : Bool) : Wm w As ls cs Bf lv hb pb bi bg (wr.setCell ⟨bi, k, none⟩ (.bool v)) sv L c (upd I k v) G V b := by
  have K : Kp wr (wr.setCell ⟨bi, k, none⟩ (.bool v)) (fun q => q = bi) := by
    refine Kp.setCell (Kp.refl _ _) ?_ _
    left; rfl
  have hn : ∀ i, i ≠ 3 → ∀ q, D hb pb sv bi bg V i = some q → ¬ q = bi := fun i hi q hq e => hi (h.sep i 3 q hq (by rw [e]; rfl))
  have hl := (h.low 3 bi rfl).1
  refine ⟨h.rep.kept K ?_, h.j.kept (base := w.heap.size + 2) (by omega) (by omega) (fun i hi => K.keep i (by have := (h.low 0 _ rfl); omega) (by omega)), ?_, blk_kp h.gvb K (hn 4 (by omega) bg rfl), fun i => row_kp (h.rows i) K (fun q hq => hn (i + 5) (by omega) q hq), h.sep, fun i q hq => ⟨(h.low i q hq).1, Nat.lt_of_lt_of_le (h.low i q hq).2 K.size⟩, h.kept.then_ K (fun q hq => .inr (by omega))⟩
  · rintro q rfl (e | e | e)
    · exact hn 0 (by omega) hb rfl e.symm
    · exact hn 1 (by omega) pb rfl e.symm
    · exact hn 2 (by omega) q e rfl
  · have h1 := blk_put h.inb k (.bool v) rfl
    rw [h1]
    congr 2
    apply Array.ext'
    rw [Array.toList_setIfInBounds]
    simp only
    rw [range_set (fun i => Value.bool (I i)) k (.bool v) 16 hk]
    apply List.map_congr_left
    intro i _
    by_cases e : i = k <;> simp [upd, e]
theorem Wm.append (h : Wm w As ls cs Bf lv hb pb bi bg wr sv L c I G V b) {k : Nat} (hk : k < 16) {v : Value} {g : List Int} (K0 : Kp wr w2 (fun q => (V k).ownBlock = some q)) (own : w2.ownsRow (w.heap.size + 2) 3 1 v g.length (g.map (Value.int .i64)))
    (hf : ∀ q, v.ownBlock = some q → (V k).ownBlock = some q ∨ ∀ i, D hb pb sv bi bg V i ≠ some q) : Wm w As ls cs Bf lv hb pb bi bg (w2.setCell ⟨bg, k, none⟩ v) sv L c I (upd G k g) (upd V k v) b := by
  have K1 : Kp w2 (w2.setCell ⟨bg, k, none⟩ v) (fun q => q = bg) := by
    refine Kp.setCell (Kp.refl _ _) ?_ _
    left; rfl
  have K : Kp wr (w2.setCell ⟨bg, k, none⟩ v) (fun q => (V k).ownBlock = some q ∨ q = bg) := (K0.mono (fun q hq => .inl hq)).then_ K1 (fun q hq => .inl (.inr hq))
  have hn : ∀ i, i ≠ 4 → i ≠ k + 5 → ∀ q, D hb pb sv bi bg V i = some q → ¬ ((V k).ownBlock = some q ∨ q = bg) := by
    rintro i hi hi2 q hq (e | e)
    · exact hi2 (h.sep i (k + 5) q hq e)
    · exact hi (h.sep i 4 q hq (by rw [e]; rfl))
  have hl4 := (h.low 4 bg rfl).1
  have hbg : ∀ q, v.ownBlock = some q → q ≠ bg := fun q hq e => by
    rcases hf q hq with h1 | h1
    · have := h.sep (k + 5) 4 q h1 (by rw [e]; rfl)
      omega
    · exact h1 4 (by rw [e]; rfl)
  have hvk : ∀ q, (V k).ownBlock = some q → w.heap.size + 2 ≤ q := fun q hq => (h.low (k + 5) q hq).1
  refine ⟨h.rep.kept K ?_, h.j.kept (base := w.heap.size + 2) (by omega) (by omega) (fun i hi => K.keep i (by have := (h.low 0 _ rfl); omega) ?_), blk_kp h.inb K (hn 3 (by omega) (by omega) bi rfl), ?_, fun i => ?_, ?_, ?_, h.kept.then_ K (fun q hq => .inr ?_)⟩
  · rintro q hq (e | e | e)
    · exact hn 0 (by omega) (by omega) q (by rw [e]; rfl) hq
    · exact hn 1 (by omega) (by omega) q (by rw [e]; rfl) hq
    · exact hn 2 (by omega) (by omega) q e hq
  · rintro (e | e)
    · have := hvk _ e; omega
    · omega
  · have h0 : w2.heap[bg]? = _ := blk_kp h.gvb K0 (fun e => by have := h.sep (k + 5) 4 bg e rfl; omega)
    rw [blk_put h0 k v rfl]
    congr 2
    apply Array.ext'
    rw [Array.toList_setIfInBounds]
    simp only
    rw [range_set V k v 16 hk]
  · by_cases e : i = k
    · subst e
      rw [upd_self, upd_self]
      exact row_kp own K1 (fun q hq => hbg q hq)
    · rw [upd_ne _ _ e, upd_ne _ _ e]
      exact row_kp (h.rows i) K (fun q hq => hn (i + 5) (by omega) (by omega) q hq)
  · intro i j q hi hj
    by_cases e1 : i = k + 5
    · by_cases e2 : j = k + 5
      · omega
      · subst e1
        rw [D_upd_self] at hi
        rw [D_upd_ne _ _ _ _ _ _ _ _ e2] at hj
        rcases hf q hi with h1 | h1
        · exact h.sep (k + 5) j q h1 hj
        · exact absurd hj (h1 j)
    · rw [D_upd_ne _ _ _ _ _ _ _ _ e1] at hi
      by_cases e2 : j = k + 5
      · subst e2
        rw [D_upd_self] at hj
        rcases hf q hj with h1 | h1
        · exact h.sep i (k + 5) q hi h1
        · exact absurd hi (h1 i)
      · rw [D_upd_ne _ _ _ _ _ _ _ _ e2] at hj
        exact h.sep i j q hi hj
  · intro i q hi
    by_cases e1 : i = k + 5
    · subst e1
      rw [D_upd_self] at hi
      have := row_blk own hi
      exact ⟨this.1, Nat.lt_of_lt_of_le this.2 K1.size⟩
    · rw [D_upd_ne _ _ _ _ _ _ _ _ e1] at hi
      exact ⟨(h.low i q hi).1, Nat.lt_of_lt_of_le (h.low i q hi).2 K.size⟩
  · rcases hq with e | e
    · have := hvk _ e; omega
    · omega
theorem Wm.inAt (h : Wm w As ls cs Bf lv hb pb bi bg wr sv L c I G V b) {k : Nat} (hk : k < 16) : wr.cell? ⟨bi, k, none⟩ = some (.bool (I k)) ∧ wr.frozen? ⟨bi, k, none⟩ = false :=
  ⟨(blk_cell h.inb k).trans (by simp [hk]), blk_frozen h.inb k⟩
theorem Wm.gvAt (h : Wm w As ls cs Bf lv hb pb bi bg wr sv L c I G V b) {k : Nat} (hk : k < 16) : wr.cell? ⟨bg, k, none⟩ = some (V k) ∧ wr.frozen? ⟨bg, k, none⟩ = false :=
  ⟨(blk_cell h.gvb k).trans (by simp [hk]), blk_frozen h.gvb k⟩
theorem Wm.le (h : Wm w As ls cs Bf lv hb pb bi bg wr sv L c I G V b) (hb' : b2 ≤ b) : Wm w As ls cs Bf lv hb pb bi bg wr sv L c I G V b2 := by
  obtain ⟨v, hv, hk⟩ := h.j.ask
  exact ⟨h.rep, ⟨⟨v, hv, by omega⟩, h.j.says, h.j.row, h.j.sep, h.j.small⟩, h.inb, h.gvb, h.rows, h.sep, h.low, h.kept⟩
/-- A list of one number, made anew. -/
theorem one_own {W : World} {base : Nat} (hb : base ≤ W.heap.size) (p : Int) : (W.alloc (.cells #[.int .i64 p] 3)).ownsRow base 3 1 (.slice (some ⟨W.heap.size, 0, none⟩) 1 1) [p].length ([p].map (Value.int .i64)) :=
  ⟨rfl, .inr ⟨W.heap.size, 1, #[.int .i64 p], rfl, hb, heap_alloc_new _ _, by simp, by unfold maxLen; omega, rfl, rfl⟩⟩
theorem Wm.size (h : Wm w As ls cs Bf lv hb pb bi bg wr sv L c I G V b) : w.heap.size + 2 ≤ wr.heap.size := by have := h.low 0 _ rfl; omega
theorem Wm.fresh (h : Wm w As ls cs Bf lv hb pb bi bg wr sv L c I G V b) : ∀ i, D hb pb sv bi bg V i ≠ some wr.heap.size := fun i hi => by have := (h.low i _ hi).2; omega
theorem Wm.add1 (h : Wm w As ls cs Bf lv hb pb bi bg wr sv L c I G V b) {k : Nat} (hk : k < 16) (p : Int) :
    Wm w As ls cs Bf lv hb pb bi bg ((wr.alloc (.cells #[.int .i64 p] 3)).setCell ⟨bg, k, none⟩ (.slice (some ⟨wr.heap.size, 0, none⟩) 1 1)) sv L c I (upd G k [p]) (upd V k (.slice (some ⟨wr.heap.size, 0, none⟩) 1 1)) b :=
  h.append hk ((Kp.refl _ _).alloc _) (one_own h.size p) (fun q hq => by cases hq; exact .inr h.fresh)
theorem Wm.add2 (h : Wm w As ls cs Bf lv hb pb bi bg wr sv L c I G V b) {k : Nat} (hk : k < 16) (p : Int) (v : Bool) :
    Wm w As ls cs Bf lv hb pb bi bg (((wr.alloc (.cells #[.int .i64 p] 3)).setCell ⟨bi, k, none⟩ (.bool v)).setCell ⟨bg, k, none⟩ (.slice (some ⟨wr.heap.size, 0, none⟩) 1 1)) sv L c (upd I k v) (upd G k [p]) (upd V k (.slice (some ⟨wr.heap.size, 0, none⟩) 1 1)) b := by
  have hlt := (h.low 3 bi rfl).2
  refine Wm.append ((h.stay ((Kp.refl _ _).alloc _)).setI hk v) hk (Kp.refl _ _) ?_ (fun q hq => by cases hq; exact .inr h.fresh)
  refine row_kp (one_own h.size p) (S := fun q => q = bi) ?_ (fun q hq e => by cases hq; exact absurd e (by show wr.heap.size ≠ bi; omega))
  refine Kp.setCell (Kp.refl _ _) ?_ _
  left; rfl
end

/-- What is in. -/
structure Pq (L : List (It Int Int)) (I : Nat → Bool) (G : Nat → List Int) : Prop where
  key : ∀ x ∈ L, ∃ k : Nat, k < 16 ∧ x.key = k ∧ I k = true ∧ x.rank ∈ G k
  full : ∀ k, k < 16 → I k = true → (k : Int) ∈ keys L
section
variable {L L1 : List (It Int Int)} {I : Nat → Bool} {G : Nat → List Int}
theorem Pq.iff (h : Pq L I G) {k : Nat} (hk : k < 16) : (k : Int) ∈ keys L ↔ I k = true := by
  constructor
  · intro hm
    obtain ⟨x, hx, hxk⟩ := List.mem_map.1 hm
    obtain ⟨j, hj, h1, h2, _⟩ := h.key x hx
    have : j = k := by omega
    exact this ▸ h2
  · exact h.full k hk
theorem Pq.push (h : Pq L I G) {k : Nat} (hk : k < 16) (hI : I k = false) (p c : Int) (hP : L1.Perm (L ++ [⟨k, p, c⟩])) : Pq L1 (upd I k true) (upd G k [p]) := by
  refine ⟨fun x hx => ?_, fun j hj hIj => ?_⟩
  · have hx := hP.mem_iff.1 hx
    rcases List.mem_append.1 hx with hx | hx
    · obtain ⟨j, hj, h1, h2, h3⟩ := h.key x hx
      have hne : j ≠ k := fun e => by rw [e, hI] at h2; cases h2
      exact ⟨j, hj, h1, by rw [upd_ne _ _ hne]; exact h2, by rw [upd_ne _ _ hne]; exact h3⟩
    · obtain rfl := List.mem_singleton.1 hx
      exact ⟨k, hk, rfl, upd_self _ _ _, by rw [upd_self]; simp⟩
  · unfold keys
    rw [(hP.map _).mem_iff, List.map_append]
    by_cases e : j = k
    · subst e; simp
    · rw [upd_ne _ _ e] at hIj
      exact List.mem_append_left _ (h.full j hj hIj)
theorem Pq.lower (h : Pq L I G) {k i : Nat} {x : It Int Int} (hx : L[i]? = some x) (hk : x.key = k) (p : Int) (hP : L1.Perm (L.set i ⟨x.key, p, x.came⟩)) : Pq L1 I (upd G k (G k ++ [p])) := by
  have hi := (List.getElem?_eq_some_iff.1 hx).1
  have hsub : ∀ j y, y ∈ G j → y ∈ upd G k (G k ++ [p]) j := fun j y hy => by
    by_cases e : j = k
    · subst e; rw [upd_self]; exact List.mem_append_left _ hy
    · rw [upd_ne _ _ e]; exact hy
  refine ⟨fun y hy => ?_, fun j hj hIj => ?_⟩
  · have hy := hP.mem_iff.1 hy
    rcases List.mem_or_eq_of_mem_set hy with hy | rfl
    · obtain ⟨j, hj, h1, h2, h3⟩ := h.key y hy
      exact ⟨j, hj, h1, h2, hsub _ _ h3⟩
    · obtain ⟨j, hj, h1, h2, _⟩ := h.key x (List.mem_of_getElem? hx)
      obtain rfl : j = k := by omega
      exact ⟨j, hj, h1, h2, by rw [upd_self]; simp⟩
  · have e : keys (L.set i ⟨x.key, p, x.came⟩) = keys L := by
      unfold keys
      rw [List.map_set]
      apply List.ext_getElem?
      intro m
      by_cases e : i = m
      · subst e
        rw [List.getElem?_set_self (by simpa using hi), List.getElem?_map, hx]; rfl
      · rw [List.getElem?_set_ne e]
    have : (j : Int) ∈ keys (L.set i ⟨x.key, p, x.came⟩) := by rw [e]; exact h.full j hj hIj
    unfold keys at this ⊢
    rw [(hP.map _).mem_iff]
    exact this
theorem Pq.drop (h : Pq L I G) (hn : (keys L).Nodup) {k : Nat} {x : It Int Int} (hk : x.key = k) (hP : (x :: L1).Perm L) : Pq L1 (upd I k false) G := by
  have hn1 : (x.key :: keys L1).Nodup := (hP.map (fun x : It Int Int => x.key)).nodup_iff.2 hn
  refine ⟨fun y hy => ?_, fun j hj hIj => ?_⟩
  · obtain ⟨j, hj, h1, h2, h3⟩ := h.key y (hP.mem_iff.1 (List.mem_cons_of_mem _ hy))
    have hne : j ≠ k := fun e => (List.nodup_cons.1 hn1).1 (by rw [hk, ← e, ← h1]; exact List.mem_map.2 ⟨y, hy, rfl⟩)
    exact ⟨j, hj, h1, by rw [upd_ne _ _ hne]; exact h2, h3⟩
  · by_cases e : j = k
    · subst e; rw [upd_self] at hIj; cases hIj
    · rw [upd_ne _ _ e] at hIj
      have h1 := h.full j hj hIj
      have h2 : (j : Int) ∈ x.key :: keys L1 := (hP.map (fun x : It Int Int => x.key)).mem_iff.2 h1
      rcases List.mem_cons.1 h2 with h3 | h3
      · omega
      · exact h3
theorem Pq.len (h : Pq L I G) (hn : (keys L).Nodup) : L.length = ((List.range 16).filter I).length := by
  have h1 : L.length = (keys L).length := by simp [keys]
  rw [h1]
  have hp : (keys L).Perm (((List.range 16).filter I).map (fun k : Nat => (k : Int))) := by
    rw [List.perm_ext_iff_of_nodup hn]
    · intro a
      constructor
      · intro ha
        obtain ⟨x, hx, rfl⟩ := List.mem_map.1 ha
        obtain ⟨k, hk, e, hI, _⟩ := h.key x hx
        exact List.mem_map.2 ⟨k, List.mem_filter.2 ⟨List.mem_range.2 hk, hI⟩, e.symm⟩
      · intro ha
        obtain ⟨k, hk, rfl⟩ := List.mem_map.1 ha
        obtain ⟨h1, h2⟩ := List.mem_filter.1 hk
        exact h.full k (List.mem_range.1 h1) h2
    · have h1 : ((List.range 16).filter I).Nodup := List.Pairwise.filter _ List.nodup_range
      exact List.Pairwise.map (R := fun a b : Nat => a ≠ b) _ (fun a b hab e => hab (by omega)) h1
  rw [hp.length_eq, List.length_map]
theorem Pq.small (h : Pq L I G) (hn : (keys L).Nodup) : L.length ≤ 16 := by
  rw [h.len hn]
  exact Nat.le_trans (List.length_filter_le _ _) (by simp)
end
end Go.Proofs.Ytiblnccbeefdkaa.Wr
