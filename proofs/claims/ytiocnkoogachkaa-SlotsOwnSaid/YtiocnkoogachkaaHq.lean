/- This text says how a heap of keys lies in memory, for every form of keys and ranks, and what a store into it leaves. -/
import Derived.Test.YtiocnkoogachkaaHp
namespace Go.Proofs.Ytiocnkoogachkaa.Hp
open Go.RowKit Go.Proofs.YtiocnkoogachkaaW.PrintWords Go.Proofs.Ytiocnkoogachkaa.Mp

/-- How items, keys and places lie. -/
structure HForm (κ ρ : Type) where
  f : It κ ρ → List Value
  sz : Nat
  st : TypeId
  it : TypeId
  d : TypeDesc
  kv : κ → Value
  len : ∀ x, (f x).length = sz
  pos : 0 < sz
  KV : KV d kv
  ne : it ≠ st
variable {κ ρ : Type}
def flat (F : HForm κ ρ) (L : List (It κ ρ)) : List Value := L.flatMap F.f

theorem flat_nil (F : HForm κ ρ) : flat F [] = [] := rfl
theorem flat_cons (F : HForm κ ρ) (x : It κ ρ) (L : List (It κ ρ)) : flat F (x :: L) = F.f x ++ flat F L := by simp [flat]
theorem flat_app (F : HForm κ ρ) (L M : List (It κ ρ)) : flat F (L ++ M) = flat F L ++ flat F M := by simp [flat]
theorem flat_len (F : HForm κ ρ) : ∀ L : List (It κ ρ), (flat F L).length = L.length * F.sz
  | [] => by simp [flat]
  | x :: L => by rw [flat_cons, List.length_append, flat_len F L, F.len, List.length_cons, Nat.add_mul]; omega
theorem flat_get (F : HForm κ ρ) : ∀ (L : List (It κ ρ)) (i k : Nat) (x : It κ ρ), L[i]? = some x → k < F.sz → (flat F L)[i * F.sz + k]? = (F.f x)[k]?
  | [], i, k, x, h, hk => by cases h
  | y :: L, 0, k, x, h, hk => by
    obtain rfl : y = x := by simpa using h
    rw [flat_cons, Nat.zero_mul, Nat.zero_add, List.getElem?_append_left (by rw [F.len]; exact hk)]
  | y :: L, i + 1, k, x, h, hk => by
    rw [flat_cons, List.getElem?_append_right (by rw [F.len, Nat.add_mul]; omega), F.len, show (i + 1) * F.sz + k - F.sz = i * F.sz + k by rw [Nat.add_mul]; omega]
    exact flat_get F L i k x (by simpa using h) hk
theorem flat_inj (F : HForm κ ρ) {L : List (It κ ρ)} {ys : List Value} (hl : ys.length = L.length * F.sz) (h : ∀ i x k, L[i]? = some x → k < F.sz → ys[i * F.sz + k]? = (F.f x)[k]?) : ys = flat F L := by
  apply List.ext_getElem?
  intro m
  by_cases hm : m < L.length * F.sz
  · have hi : m / F.sz < L.length := (Nat.div_lt_iff_lt_mul F.pos).2 hm
    have hk : m % F.sz < F.sz := Nat.mod_lt _ F.pos
    have e : m = m / F.sz * F.sz + m % F.sz := by rw [Nat.mul_comm]; exact (Nat.div_add_mod m F.sz).symm
    rw [e, h _ _ _ (List.getElem?_eq_getElem hi) hk, flat_get F L _ _ _ (List.getElem?_eq_getElem hi) hk]
  · rw [List.getElem?_eq_none (by omega), List.getElem?_eq_none (by rw [flat_len]; omega)]

/-- What stands where, one item turned. -/
theorem flat_set (F : HForm κ ρ) (L : List (It κ ρ)) (i : Nat) (y : It κ ρ) (hi : i < L.length) (ys : List Value) (hl : ys.length = (flat F L).length)
    (h1 : ∀ k, k < F.sz → ys[i * F.sz + k]? = (F.f y)[k]?) (h2 : ∀ m, (m < i * F.sz ∨ (i + 1) * F.sz ≤ m) → ys[m]? = (flat F L)[m]?) : ys = flat F (L.set i y) := by
  refine flat_inj F (by rw [hl, flat_len, List.length_set]) fun j x k hj hk => ?_
  by_cases hij : i = j
  · subst hij
    obtain rfl : y = x := by rw [List.getElem?_set_self hi] at hj; exact Option.some.inj hj
    exact h1 k hk
  · rw [List.getElem?_set_ne hij] at hj
    rw [h2 _ ?_, flat_get F L j k x hj hk]
    rcases Nat.lt_or_ge j i with hlt | hge
    · left
      have : (j + 1) * F.sz ≤ i * F.sz := Nat.mul_le_mul_right _ hlt
      rw [Nat.add_mul] at this
      omega
    · right
      have : (i + 1) * F.sz ≤ j * F.sz := Nat.mul_le_mul_right _ (by omega)
      omega

theorem own_set {W : World} {base n cap g s : Nat} {e : TypeId} {xs : List Value} (h : W.ownsRow base e s (.slice (some ⟨g, 0, none⟩) n cap) n xs) (k : Nat) (a : Value) :
    (W.setCell ⟨g, k, none⟩ a).ownsRow base e s (.slice (some ⟨g, 0, none⟩) n cap) n (xs.set k a) := by
  obtain ⟨h1, h2⟩ := h
  refine ⟨by rw [List.length_set]; exact h1, ?_⟩
  rcases h2 with ⟨hv, _⟩ | ⟨g', cap', cur, hv, hb, hg, hc1, hc2, hc3, hc4⟩
  · cases hv
  · cases hv
    refine .inr ⟨g, cap, cur.setIfInBounds k a, rfl, hb, blk_put hg k a rfl, hc1, hc2, by simpa using hc3, ?_⟩
    rw [Array.toList_setIfInBounds, List.take_set, hc4]
theorem own_blk? {W : World} {base n cap g s : Nat} {e : TypeId} {xs : List Value} (h : W.ownsRow base e s (.slice (some ⟨g, 0, none⟩) n cap) n xs) : ∃ cur, W.heap[g]? = some (.cells cur e (0, 0)) ∧ base ≤ g ∧ n ≤ cap ∧ cap ≤ maxLen ∧ cur.size = cap * s ∧ cur.toList.take (n * s) = xs := by
  obtain ⟨h1, h2⟩ := h
  rcases h2 with ⟨hv, _⟩ | ⟨g', cap', cur, hv, hb, hg, hc1, hc2, hc3, hc4⟩
  · cases hv
  · cases hv
    exact ⟨cur, hg, hb, hc1, hc2, hc3, hc4⟩
theorem _root_.Go.World.ownsRow.kept_ {W W2 : World} {base n cap g s : Nat} {e : TypeId} {xs : List Value} {S : Nat → Prop} (h : W.ownsRow base e s (.slice (some ⟨g, 0, none⟩) n cap) n xs) (hk : Kp W W2 S) (hg : ¬ S g) : W2.ownsRow base e s (.slice (some ⟨g, 0, none⟩) n cap) n xs := by
  obtain ⟨cur, h1, h2, h3, h4, h5, h6⟩ := own_blk? h
  exact ⟨h.1, .inr ⟨g, cap, cur, rfl, h2, blk_kp h1 hk hg, h3, h4, h5, h6⟩⟩
theorem own_drew {W : World} {base n s : Nat} {v : Value} {e : TypeId} {xs : List Value} (h : W.ownsRow base e s v n xs) : W.drew.ownsRow base e s v n xs := h
theorem own_cell {W : World} {base n cap g s : Nat} {e : TypeId} {xs : List Value} (h : W.ownsRow base e s (.slice (some ⟨g, 0, none⟩) n cap) n xs) (k : Nat) (v : Value) (hk : xs[k]? = some v) : W.cell? ⟨g, k, none⟩ = some v := by
  obtain ⟨cur, hg, _, _, _, _, hc⟩ := own_blk? h
  rw [blk_cell hg k, ← Array.getElem?_toList]
  rw [← hc] at hk
  have := (List.getElem?_eq_some_iff.1 hk).1
  rw [List.getElem?_take] at hk
  split at hk
  · exact hk
  · cases hk
theorem own_frozen {W : World} {base n cap g s : Nat} {e : TypeId} {xs : List Value} (h : W.ownsRow base e s (.slice (some ⟨g, 0, none⟩) n cap) n xs) (k : Nat) : W.frozen? ⟨g, k, none⟩ = false := by
  obtain ⟨cur, hg, _⟩ := own_blk? h
  exact blk_frozen hg k

def keys (L : List (It κ ρ)) : List κ := L.map (·.key)
/-- Two items exchanged. -/
def swp (L : List (It κ ρ)) (i j : Nat) : List (It κ ρ) := match L[i]?, L[j]? with
  | some x, some y => (L.set i y).set j x
  | _, _ => L
theorem swp_eq {L : List (It κ ρ)} {i j : Nat} {x y : It κ ρ} (hx : L[i]? = some x) (hy : L[j]? = some y) : swp L i j = (L.set i y).set j x := by
  unfold swp; rw [hx, hy]
theorem swp_len (L : List (It κ ρ)) (i j : Nat) : (swp L i j).length = L.length := by
  unfold swp; split <;> simp
theorem swp_get {L : List (It κ ρ)} {i j : Nat} {x y : It κ ρ} (hx : L[i]? = some x) (hy : L[j]? = some y) (m : Nat) : (swp L i j)[m]? = if m = j then some x else if m = i then some y else L[m]? := by
  have hi := (List.getElem?_eq_some_iff.1 hx).1
  have hj := (List.getElem?_eq_some_iff.1 hy).1
  rw [swp_eq hx hy]
  by_cases h1 : m = j
  · subst h1; rw [if_pos rfl, List.getElem?_set_self (by simpa using hj)]
  · rw [if_neg h1, List.getElem?_set_ne (Ne.symm h1)]
    by_cases h2 : m = i
    · subst h2; rw [if_pos rfl, List.getElem?_set_self hi]
    · rw [if_neg h2, List.getElem?_set_ne (Ne.symm h2)]
theorem swp_perm {L : List (It κ ρ)} {i j : Nat} {x y : It κ ρ} (hx : L[i]? = some x) (hy : L[j]? = some y) : (swp L i j).Perm L := by
  rw [swp_eq hx hy]
  have hi := (List.getElem?_eq_some_iff.1 hx).1
  have hj := (List.getElem?_eq_some_iff.1 hy).1
  rw [List.getElem?_eq_getElem hi] at hx
  rw [List.getElem?_eq_getElem hj] at hy
  cases hx; cases hy
  exact List.set_set_perm hi hj
theorem swp_nodup {L : List (It κ ρ)} {i j : Nat} {x y : It κ ρ} (hx : L[i]? = some x) (hy : L[j]? = some y) (hn : (keys L).Nodup) : (keys (swp L i j)).Nodup :=
  ((swp_perm hx hy).map _).nodup_iff.2 hn
section
variable [DecidableEq κ]
/-- Where a key stands. -/
def place (L : List (It κ ρ)) (k : κ) : Option Nat := L.findIdx? (fun x => decide (x.key = k))

theorem place_iff {L : List (It κ ρ)} (hn : (keys L).Nodup) (k : κ) (i : Nat) : place L k = some i ↔ ∃ x, L[i]? = some x ∧ x.key = k := by
  unfold place
  rw [List.findIdx?_eq_some_iff_getElem]
  constructor
  · rintro ⟨h, h1, _⟩
    exact ⟨_, List.getElem?_eq_getElem h, by simpa using h1⟩
  · rintro ⟨x, hx, rfl⟩
    obtain ⟨h, rfl⟩ := List.getElem?_eq_some_iff.1 hx
    refine ⟨h, by simp, fun j hj => ?_⟩
    simp only [Bool.not_eq_true, decide_eq_false_iff_not]
    intro he
    have h1 : (keys L)[j]? = some (L[i].key) := by unfold keys; rw [List.getElem?_map, List.getElem?_eq_getElem (by omega)]; simp [he]
    have h2 : (keys L)[i]? = some (L[i].key) := by unfold keys; rw [List.getElem?_map, List.getElem?_eq_getElem h]; rfl
    have := (List.getElem?_inj (by unfold keys; simp; omega) hn).1 (h1.trans h2.symm)
    omega
theorem place_none {L : List (It κ ρ)} (k : κ) : place L k = none ↔ k ∉ keys L := by
  unfold place keys
  rw [List.findIdx?_eq_none_iff]
  simp

/-- A heap lies in memory. -/
structure Rep (F : HForm κ ρ) (w : World) (base hb pb : Nat) (lv sv : Value) (L : List (It κ ρ)) (c : Int) : Prop where
  head : w.heap[hb]? = some (.cells #[lv, sv, .map (some pb), .int .i64 c] F.st (0, 0))
  own : w.ownsRow base F.it F.sz sv L.length (flat F L)
  map : MapAt w pb F.d F.kv (fun k => (place L k).map (fun (i : Nat) => Value.int .i64 (i : Int)))
  nodup : (keys L).Nodup
  hbase : base ≤ hb
  pbase : base ≤ pb
/-- The blocks that a heap writes. -/
def Mine (hb pb : Nat) (sv : Value) (k : Nat) : Prop := k = hb ∨ k = pb ∨ sv.ownBlock = some k

theorem swp_place {L : List (It κ ρ)} {i j : Nat} {x y : It κ ρ} (hx : L[i]? = some x) (hy : L[j]? = some y) (hn : (keys L).Nodup) (k : κ) :
    (if k = x.key then some (Value.int .i64 (j : Int)) else if k = y.key then some (Value.int .i64 (i : Int)) else (place L k).map (fun (i : Nat) => Value.int .i64 (i : Int))) = (place (swp L i j) k).map (fun (i : Nat) => Value.int .i64 (i : Int)) := by
  have hn' := swp_nodup hx hy hn
  by_cases h1 : k = x.key
  · subst h1
    rw [if_pos rfl, (place_iff hn' x.key j).2 ⟨x, by rw [swp_get hx hy, if_pos rfl], rfl⟩]
    rfl
  · rw [if_neg h1]
    by_cases h2 : k = y.key
    · subst h2
      have hij : i ≠ j := fun e => by subst e; rw [hx] at hy; cases hy; exact h1 rfl
      rw [if_pos rfl, (place_iff hn' y.key i).2 ⟨y, by rw [swp_get hx hy, if_neg hij, if_pos rfl], rfl⟩]
      rfl
    · rw [if_neg h2]
      congr 1
      apply Option.ext
      intro m
      rw [place_iff hn, place_iff hn']
      constructor
      · rintro ⟨z, hz, rfl⟩
        refine ⟨z, ?_, rfl⟩
        rw [swp_get hx hy, if_neg, if_neg]
        · exact hz
        · rintro rfl; rw [hx] at hz; cases hz; exact h1 rfl
        · rintro rfl; rw [hy] at hz; cases hz; exact h2 rfl
      · rintro ⟨z, hz, rfl⟩
        rw [swp_get hx hy] at hz
        split at hz
        · cases hz; exact absurd rfl h1
        · split at hz
          · cases hz; exact absurd rfl h2
          · exact ⟨z, hz, rfl⟩
end
end Go.Proofs.Ytiocnkoogachkaa.Hp
