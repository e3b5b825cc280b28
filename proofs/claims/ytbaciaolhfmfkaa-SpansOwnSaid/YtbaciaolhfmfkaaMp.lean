/- This text proves what the map operations do to a map that is told key by key. -/
import Derived.Test.YtbaciaolhfmfkaaChecked
import Derived.Test.YtbaciaolhfmfkaaWMore
import Derived.Test.YtbaciaolhfmfkaaWKept
import Derived.WalkKit
import Derived.MapKept
import Derived.Maps.OwnSet
import Derived.WideKeyEntry
namespace Go.Proofs.Ytbaciaolhfmfkaa.Mp
open Go.RowKit Go.Proofs.YtbaciaolhfmfkaaW.PrintWords Go.MapKept

/-- What a call keeps: all but the blocks of S and what is new since; and all that lies beside the memory. -/
structure Kp (w W : World) (S : Nat → Prop) : Prop where
  size : w.heap.size ≤ W.heap.size
  keep : ∀ i, i < w.heap.size → ¬ S i → W.heap[i]? = w.heap[i]?
  os : W.os = w.os
  tape : W.tape = w.tape
  output : W.output = w.output
section
variable {w W W2 : World} {S S2 S' : Nat → Prop}
theorem Kp.refl (w : World) (S : Nat → Prop) : Kp w w S := ⟨Nat.le_refl _, fun _ _ _ => rfl, rfl, rfl, rfl⟩
theorem Kp.mono (h : Kp w W S) (hs : ∀ k, S k → S' k) : Kp w W S' := ⟨h.1, fun i hi hn => h.2 i hi (fun hk => hn (hs i hk)), h.os, h.tape, h.output⟩
theorem Kp.then_ (h : Kp w W S) (k : Kp W W2 S2) (hs : ∀ k, S2 k → S k ∨ w.heap.size ≤ k) : Kp w W2 S :=
  ⟨Nat.le_trans h.1 k.1, fun i hi hn => (k.2 i (Nat.lt_of_lt_of_le hi h.1) (fun h2 => (hs i h2).elim hn (fun h3 => by omega))).trans (h.2 i hi hn), k.os.trans h.os, k.tape.trans h.tape, k.output.trans h.output⟩
theorem Kp.of_below (h : Below w.heap.size w W) (S : Nat → Prop) : Kp w W S := ⟨h.size, fun i hi _ => h.block i hi, h.os, h.tape, h.output⟩
theorem Kp.to_below (h : Kp w W (fun _ => False)) : Below w.heap.size w W := ⟨h.os, h.tape, h.output, h.size, fun k hk => h.keep k hk (fun h => h)⟩
theorem Kp.below (h : Kp w W S) (hb : Below W.heap.size W W2) : Kp w W2 S := h.then_ (Kp.of_below hb (fun _ => False)) (fun _ hk => hk.elim)
theorem Kp.alloc (h : Kp w W S) (o : Obj) : Kp w (W.alloc o) S := h.below (below_alloc (Below.refl _ _) o)
theorem Kp.drew (h : Kp w W S) : Kp w W.drew S := ⟨h.size, h.keep, h.os, h.tape, h.output⟩
theorem Kp.drewN (h : Kp w W S) (m : Nat) : Kp w (W.drewN m) S := ⟨h.size, h.keep, h.os, h.tape, h.output⟩
theorem Kp.setCell (h : Kp w W S) {p : Addr} (hp : S p.block ∨ w.heap.size ≤ p.block) (u : Value) : Kp w (W.setCell p u) S :=
  h.then_ (S2 := fun k => k = p.block) ⟨by simp [World.setCell], fun i _ hn => Below.heap_setCell W p u i hn, rfl, rfl, rfl⟩ (fun k hk => by rw [hk]; exact hp)
theorem blk_kp {g : Nat} {o : Obj} (hb : W.heap[g]? = some o) (hk : Kp W W2 S) (hne : ¬ S g) : W2.heap[g]? = some o := (hk.2 g (blk_lt hb) hne).trans hb
theorem cell_kp {a : Addr} {v : Value} (hc : W.cell? a = some v) (hk : Kp W W2 S) (hne : ¬ S a.block) : W2.cell? a = some v := by
  have := hk.2 a.block (World.block_lt_of_cell? W a hc) hne
  simpa [World.cell?, this] using hc
end

/-- Keys of this kind are told apart by what they are. -/
structure KV (d : TypeDesc) {κ : Type} (kv : κ → Value) : Prop where
  key : ∀ k, IsKey d (kv k)
  inj : ∀ k l, kv k = kv l → k = l
/-- These entries are the map M. -/
structure MapIs (d : TypeDesc) {κ : Type} (kv : κ → Value) (es : Array MapEntry) (clock : Nat) (M : κ → Option Value) : Prop where
  stamped : Stamped es clock
  sound : ∀ x ∈ es.toList, ∃ k, x.key = kv k ∧ M k = some x.val
  full : ∀ k v, M k = some v → ∃ x ∈ es.toList, x.key = kv k ∧ x.val = v
/-- Block b is the map M. -/
def MapAt (w : World) (b : Nat) (d : TypeDesc) {κ : Type} (kv : κ → Value) (M : κ → Option Value) : Prop := ∃ es clock, w.heap[b]? = some (.map es clock) ∧ MapIs d kv es clock M
/-- The world in which block b holds this. -/
def setB (w : World) (b : Nat) (o : Obj) : World := { w with heap := w.heap.setIfInBounds b o }

section
variable {P : Program} {d : TypeDesc} {κ : Type} {kv : κ → Value} {es : Array MapEntry} {clock : Nat} {M : κ → Option Value} {w : World} {b : Nat} {t kt et : TypeId}

theorem setB_self {o : Obj} (hb : w.heap[b]? = some o) : setB w b o = w := by
  unfold setB
  have : w.heap.setIfInBounds b o = w.heap := by
    apply Array.ext_getElem?
    intro i
    by_cases h : i = b
    · subst h; rw [(heap_set hb).1, hb]
    · exact (heap_set hb).2 i h
  rw [this]
theorem setB_at {o o' : Obj} (hb : w.heap[b]? = some o) : (setB w b o').heap[b]? = some o' := (heap_set hb).1
theorem setB_other {o o' : Obj} (hb : w.heap[b]? = some o) {i : Nat} (hi : i ≠ b) : (setB w b o').heap[i]? = w.heap[i]? := (heap_set hb).2 i hi
theorem setB_size {o' : Obj} : (setB w b o').heap.size = w.heap.size := by simp [setB]
theorem setB_kept {o' : Obj} {S : Nat → Prop} (hs : S b) : Kp w (setB w b o') S := ⟨by simp [setB], fun i _ hn => by
  have : b ≠ i := fun e => hn (e ▸ hs)
  simp [setB, this], rfl, rfl, rfl⟩
theorem cell_setB {o o' : Obj} (hb : w.heap[b]? = some o) {a : Addr} (ha : a.block ≠ b) : (setB w b o').cell? a = w.cell? a := by
  simp only [World.cell?]
  rw [setB_other hb ha]
theorem frozen_setB {o o' : Obj} (hb : w.heap[b]? = some o) {a : Addr} (ha : a.block ≠ b) : (setB w b o').frozen? a = w.frozen? a := by
  simp only [World.frozen?]
  rw [setB_other hb ha]

theorem MapIs.isKey (K : KV d kv) (h : MapIs d kv es clock M) : ∀ x ∈ es.toList, IsKey d x.key := fun x hx => by
  obtain ⟨k, hk, _⟩ := h.sound x hx
  rw [hk]; exact K.key k
theorem MapIs.some_of (K : KV d kv) (h : MapIs d kv es clock M) {k : κ} {e : MapEntry} (he : e ∈ es.toList) (hk : e.key = kv k) : M k = some e.val := by
  obtain ⟨k', hk', hM⟩ := h.sound e he
  obtain rfl := K.inj _ _ (hk'.symm.trans hk)
  exact hM
theorem MapIs.none_of (h : MapIs d kv es clock M) {k : κ} (hn : ∀ x ∈ es.toList, x.key ≠ kv k) : M k = none := by
  cases hM : M k with
  | none => rfl
  | some v =>
    obtain ⟨x, hx, hk, _⟩ := h.full k v hM
    exact absurd hk (hn x hx)

/-- The two ways in which a key is looked for. -/
theorem MapIs.find (K : KV d kv) (h : MapIs d kv es clock M) (k : κ) :
    (Instr.findNow d (kv k) es.toList 0 = some none ∧ M k = none ∧ ∀ x ∈ es.toList, x.key ≠ kv k) ∨
    ∃ j e, Instr.findNow d (kv k) es.toList 0 = some (some (j, e.val)) ∧ es[j]? = some e ∧ e ∈ es.toList ∧ e.key = kv k ∧ M k = some e.val := by
  rcases findNow_spec (K.key k) es.toList 0 (h.isKey K) with ⟨h1, h2⟩ | ⟨j, e, h1, h2, h3⟩
  · exact .inl ⟨h1, h.none_of h2, h2⟩
  · have he : e ∈ es.toList := List.mem_of_getElem? h2
    exact .inr ⟨j, e, by simpa using h1, by simpa using h2, he, h3, h.some_of K he h3⟩

theorem MapAt.look (K : KV d kv) (h : MapAt w b d kv M) (hm : P.underlying t = some (.map kt et)) (hd : P.underlying kt = some d) {z : Value} (hz : (zeroValue et).run P w = .ok z w) (k : κ) :
    (Instr.lookup t (.map (some b)) (kv k) true).run P w = .ok (.tuple #[(M k).getD z, .bool (M k).isSome]) w := by
  obtain ⟨es, clock, hb, hI⟩ := h
  rcases hI.find K k with ⟨h1, h2, _⟩ | ⟨j, e, h1, _, _, _, h2⟩
  · simp [Instr.lookup, run_underlying hm, MapKept.run_getObj_map hb, run_checkKey hd (K.key k), run_findKey hd h1, hz, h2, Result.andThen]
  · simp [Instr.lookup, run_underlying hm, MapKept.run_getObj_map hb, run_checkKey hd (K.key k), run_findKey hd h1, h2, Result.andThen]

theorem mem_modify_iff (es : Array MapEntry) (i : Nat) (f : MapEntry → MapEntry) (x : MapEntry) : x ∈ (es.modify i f).toList ↔ ∃ j e, es[j]? = some e ∧ x = (if j = i then f e else e) := by
  constructor
  · intro hx
    obtain ⟨j, hj⟩ := List.getElem?_of_mem hx
    rw [Array.getElem?_toList, Array.getElem?_modify] at hj
    by_cases hji : i = j
    · rw [if_pos hji] at hj
      obtain ⟨e, he, rfl⟩ := Option.map_eq_some_iff.1 hj
      exact ⟨j, e, he, by rw [if_pos hji.symm]⟩
    · rw [if_neg hji] at hj
      exact ⟨j, x, hj, by rw [if_neg (Ne.symm hji)]⟩
  · rintro ⟨j, e, he, rfl⟩
    apply List.mem_of_getElem? (i := j)
    rw [Array.getElem?_toList, Array.getElem?_modify]
    by_cases hji : i = j
    · rw [if_pos hji, if_pos hji.symm, he]; rfl
    · rw [if_neg hji, if_neg (Ne.symm hji), he]

/-- An entry's value turned. -/
theorem MapIs.turn [DecidableEq κ] (K : KV d kv) (h : MapIs d kv es clock M) {k : κ} {j : Nat} {e : MapEntry} (hj : es[j]? = some e) (hk : e.key = kv k) (v : Value) (f : MapEntry → MapEntry) (hf : f e = { e with val := v }) (hb : ∀ x ∈ es.toList, (f x).born = x.born) :
    MapIs d kv (es.modify j f) clock (fun l => if l = k then some v else M l) := by
  have he : e ∈ es.toList := List.mem_of_getElem? (i := j) (by simpa using hj)
  refine ⟨stamped_modify h.stamped j f hb (fun x _ hx => by rw [hj] at hx; cases hx; rw [hf]), ?_, ?_⟩
  · intro x hx
    obtain ⟨i, y, hy, rfl⟩ := (mem_modify_iff _ _ _ _).1 hx
    by_cases hij : i = j
    · subst hij
      rw [hj] at hy; cases hy
      exact ⟨k, by rw [if_pos rfl, hf]; exact hk, by rw [if_pos rfl, if_pos rfl, hf]⟩
    · rw [if_neg hij]
      have hy' : y ∈ es.toList := List.mem_of_getElem? (i := i) (by simpa using hy)
      obtain ⟨k', hk', hM⟩ := h.sound y hy'
      refine ⟨k', hk', ?_⟩
      rw [if_neg ?_]
      · exact hM
      · rintro rfl
        have hyk : y.key = e.key := hk'.trans hk.symm
        have hnd := h.stamped.2.2
        have h1 : (es.toList.map (·.key))[i]? = some y.key := by simp [hy]
        have h2 : (es.toList.map (·.key))[j]? = some e.key := by simp [hj]
        rw [← hyk] at h2
        exact hij ((List.getElem?_inj (List.getElem?_eq_some_iff.1 h1).1 hnd).1 (h1.trans h2.symm))
  · intro l u hl
    by_cases hlk : l = k
    · subst hlk
      rw [if_pos rfl] at hl
      cases hl
      exact ⟨f e, (mem_modify_iff _ _ _ _).2 ⟨j, e, hj, by rw [if_pos rfl]⟩, by rw [hf]; exact hk, by rw [hf]⟩
    · rw [if_neg hlk] at hl
      obtain ⟨x, hx, hxk, hxv⟩ := h.full l u hl
      obtain ⟨i, hi⟩ := List.getElem?_of_mem hx
      rw [Array.getElem?_toList] at hi
      refine ⟨x, (mem_modify_iff _ _ _ _).2 ⟨i, x, hi, ?_⟩, hxk, hxv⟩
      rw [if_neg ?_]
      rintro rfl
      rw [hj] at hi; cases hi
      exact hlk (K.inj _ _ (hxk.symm.trans hk))

/-- An entry more. -/
theorem MapIs.push [DecidableEq κ] (h : MapIs d kv es clock M) {k : κ} (hn : ∀ x ∈ es.toList, x.key ≠ kv k) (v : Value) :
    MapIs d kv (es.push { key := kv k, val := v, born := clock }) (clock + 1) (fun l => if l = k then some v else M l) := by
  refine ⟨stamped_push h.stamped hn, ?_, ?_⟩
  · intro x hx
    simp only [Array.toList_push, List.mem_append, List.mem_singleton] at hx
    rcases hx with hx | rfl
    · obtain ⟨k', hk', hM⟩ := h.sound x hx
      refine ⟨k', hk', ?_⟩
      rw [if_neg ?_]
      · exact hM
      · rintro rfl; exact hn x hx hk'
    · exact ⟨k, rfl, by rw [if_pos rfl]⟩
  · intro l u hl
    by_cases hlk : l = k
    · subst hlk
      rw [if_pos rfl] at hl
      cases hl
      exact ⟨_, by simp only [Array.toList_push, List.mem_append, List.mem_singleton]; exact .inr rfl, rfl, rfl⟩
    · rw [if_neg hlk] at hl
      obtain ⟨x, hx, hxk, hxv⟩ := h.full l u hl
      exact ⟨x, by simp only [Array.toList_push, List.mem_append]; exact .inl hx, hxk, hxv⟩

theorem MapAt.upd [DecidableEq κ] (K : KV d kv) (h : MapAt w b d kv M) (hm : P.underlying t = some (.map kt et)) (hd : P.underlying kt = some d) (k : κ) (v : Value) :
    ∃ o, (Instr.mapUpdate t (.map (some b)) (kv k) v).run P w = .ok () (setB w b o) ∧ MapAt (setB w b o) b d kv (fun l => if l = k then some v else M l) := by
  obtain ⟨es, clock, hb, hI⟩ := h
  rcases hI.find K k with ⟨h1, h2, h3⟩ | ⟨j, e, h1, hj, he, hk, h2⟩
  · refine ⟨_, ?_, _, _, setB_at hb, hI.push h3 v⟩
    simp [Instr.mapUpdate, run_underlying hm, MapKept.run_getObj_map hb, run_checkKey hd (K.key k), run_findKey hd h1, MapKept.run_setObj_map _ hb, Result.andThen, setB]
  · refine ⟨_, ?_, _, _, setB_at hb, hI.turn K hj hk v (fun e => { e with key := kv k, val := v }) (by rw [← hk]) (fun _ _ => rfl)⟩
    simp [Instr.mapUpdate, run_underlying hm, MapKept.run_getObj_map hb, run_checkKey hd (K.key k), run_findKey hd h1, hj, hk, run_keyThatStays (K.key k), MapKept.run_setObj_map _ hb, Result.andThen, setB]

theorem findIdx_born (hI : MapIs d kv es clock M) {j : Nat} {e : MapEntry} (hj : es[j]? = some e) : es.findIdx? (fun x => ((x.born : Nat) : Int) == ((e.born : Nat) : Int)) = some j := by
  rw [WideElems.findIdx_arr]
  exact WideElems.findIdx_born hI.stamped.2.1 (by simpa using hj)

/-- 'm[k] = v' in two steps, as a tuple's assignment does it, at a key that is there. -/
theorem MapAt.entry [DecidableEq κ] (K : KV d kv) (h : MapAt w b d kv M) (hm : P.underlying t = some (.map kt et)) (hd : P.underlying kt = some d) {k : κ} {u : Value} (hM : M k = some u) (v : Value) :
    ∃ (n : Nat) (o : Obj), (Instr.mapEntry t (.map (some b)) (kv k)).run P w = .ok (.tuple #[u, .int .i64 n]) w ∧ (Instr.entryStore t (.map (some b)) (.int .i64 n) v).run P w = .ok () (setB w b o) ∧ MapAt (setB w b o) b d kv (fun l => if l = k then some v else M l) := by
  obtain ⟨es, clock, hb, hI⟩ := h
  rcases hI.find K k with ⟨h1, h2, h3⟩ | ⟨j, e, h1, hj, he, hk, h2⟩
  · rw [h2] at hM; cases hM
  · rw [h2] at hM; cases hM
    have hself : es.modify j (fun e => { e with key := kv k }) = es := by
      apply Array.ext_getElem?
      intro i
      rw [Array.getElem?_modify]
      by_cases hij : j = i
      · subst hij; rw [if_pos rfl, hj, ← hk]; rfl
      · rw [if_neg hij]
    refine ⟨e.born, _, ?_, ?_, _, _, setB_at hb, hI.turn K hj hk v (fun e => { e with val := v }) rfl (fun _ _ => rfl)⟩
    · have := setB_self hb
      unfold setB at this
      simp [Instr.mapEntry, run_underlying hm, MapKept.run_getObj_map hb, run_checkKey hd (K.key k), run_findKey hd h1, hj, hk, run_keyThatStays (K.key k), MapKept.run_setObj_map _ hb, Result.andThen, hself, this, goInt]
    · have hf := findIdx_born hI hj
      simp [Instr.entryStore, MapKept.run_getObj_map hb, asInt, asIntOf, hf, MapKept.run_setObj_map _ hb, Result.andThen, setB]

theorem MapAt.drop [DecidableEq κ] (K : KV d kv) (h : MapAt w b d kv M) (hm : P.underlying t = some (.map kt et)) (hd : P.underlying kt = some d) (k : κ) :
    ∃ o, (∀ ty, (Builtin.delete_ #[t, kt] ty #[.map (some b), kv k]).run P w = .ok (.tuple #[]) (setB w b o)) ∧ MapAt (setB w b o) b d kv (fun l => if l = k then none else M l) := by
  obtain ⟨es, clock, hb, hI⟩ := h
  rcases hI.find K k with ⟨h1, h2, h3⟩ | ⟨j, e, h1, hj, he, hk, h2⟩
  · refine ⟨.map es clock, fun ty => ?_, es, clock, setB_at hb, hI.stamped, ?_, ?_⟩
    · simp [Builtin.delete_, run_underlying hm, MapKept.run_getObj_map hb, run_checkKey hd (K.key k), run_findKey hd h1, MapKept.run_setObj_map _ hb, Result.andThen, setB]
    · intro x hx
      obtain ⟨l, hl, hM⟩ := hI.sound x hx
      exact ⟨l, hl, by rw [if_neg (fun (e : l = k) => h3 x hx (e ▸ hl))]; exact hM⟩
    · intro l u hl
      by_cases hlk : l = k
      · rw [if_pos hlk] at hl; cases hl
      · rw [if_neg hlk] at hl; exact hI.full l u hl
  · have hlt : j < es.size := (Array.getElem?_eq_some_iff.1 hj).1
    have herase : (es.eraseIdxIfInBounds j).toList = es.toList.eraseIdx j := by
      unfold Array.eraseIdxIfInBounds
      rw [dif_pos hlt, Array.toList_eraseIdx]
    have hmem : ∀ x, x ∈ (es.eraseIdxIfInBounds j).toList ↔ x ∈ es.toList ∧ x.key ≠ kv k := by
      intro x
      rw [herase, List.mem_eraseIdx_iff_getElem?]
      constructor
      · rintro ⟨i, hij, hi⟩
        refine ⟨List.mem_of_getElem? hi, fun hxk => hij ?_⟩
        have hnd := hI.stamped.2.2
        rw [Array.getElem?_toList] at hi
        have h1 : (es.toList.map (·.key))[i]? = some x.key := by simp [hi]
        have h2 : (es.toList.map (·.key))[j]? = some e.key := by simp [hj]
        rw [hk, ← hxk] at h2
        exact (List.getElem?_inj (List.getElem?_eq_some_iff.1 h1).1 hnd).1 (h1.trans h2.symm)
      · rintro ⟨hx, hne⟩
        obtain ⟨i, hi⟩ := List.getElem?_of_mem hx
        refine ⟨i, ?_, hi⟩
        rintro rfl
        rw [Array.getElem?_toList, hj] at hi
        cases hi
        exact hne hk
    refine ⟨_, fun ty => ?_, _, _, setB_at hb, stamped_erase hI.stamped j, ?_, ?_⟩
    · simp [Builtin.delete_, run_underlying hm, MapKept.run_getObj_map hb, run_checkKey hd (K.key k), run_findKey hd h1, MapKept.run_setObj_map _ hb, Result.andThen, setB]
    · intro x hx
      obtain ⟨hx', hne⟩ := (hmem x).1 hx
      obtain ⟨l, hl, hM⟩ := hI.sound x hx'
      exact ⟨l, hl, by rw [if_neg (fun (e : l = k) => hne (e ▸ hl))]; exact hM⟩
    · intro l u hl
      by_cases hlk : l = k
      · rw [if_pos hlk] at hl; cases hl
      · rw [if_neg hlk] at hl
        obtain ⟨x, hx, hxk, hxv⟩ := hI.full l u hl
        exact ⟨x, (hmem x).2 ⟨hx, fun e => hlk (K.inj _ _ (hxk.symm.trans e))⟩, hxk, hxv⟩

theorem MapAt.kept {w2 : World} {S : Nat → Prop} (h : MapAt w b d kv M) (hk : Kp w w2 S) (hb : ¬ S b) : MapAt w2 b d kv M := by
  obtain ⟨es, clock, h1, h2⟩ := h
  exact ⟨es, clock, blk_kp h1 hk hb, h2⟩
theorem MapAt.lt (h : MapAt w b d kv M) : b < w.heap.size := by
  obtain ⟨es, clock, h1, _⟩ := h
  exact blk_lt h1
theorem MapAt.congr {M' : κ → Option Value} (h : MapAt w b d kv M) (he : ∀ k, M k = M' k) : MapAt w b d kv M' := by
  obtain rfl : M = M' := funext he
  exact h
theorem MapAt.made (w : World) : MapAt (w.alloc (.map #[] 0)) w.heap.size d kv (fun _ => none) :=
  ⟨#[], 0, (heap_alloc w _).1, stamped_empty _, by simp, fun _ _ h => by cases h⟩
theorem MapAt.ne_cells {c : Nat} {cs : Array Value} {e : TypeId} {z : Nat × Nat} (h : MapAt w b d kv M) (hc : w.heap[c]? = some (.cells cs e z)) : b ≠ c := by
  rintro rfl
  obtain ⟨es, clock, h1, _⟩ := h
  rw [h1] at hc; cases hc
end
theorem kv_int (q : IntKind) : KV (.int q) (fun n : Int => Value.int q n) := ⟨fun _ => rfl, fun k l h => by injection h⟩
theorem kv_string : KV .string (fun s : ByteArray => Value.string s) := ⟨fun _ => trivial, fun k l h => by injection h⟩
end Go.Proofs.Ytbaciaolhfmfkaa.Mp
