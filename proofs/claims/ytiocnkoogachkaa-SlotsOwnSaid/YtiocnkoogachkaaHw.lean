/- This text gives the step of an append, in a region that draws its order, onto a slice of the call's own; it says where the new slice lies. -/
import Derived.Test.YtiocnkoogachkaaHu
import Derived.Deep.RegionLaw
import Derived.Maps.AppendAt
namespace Go.Proofs.Ytiocnkoogachkaa.Hp
open Go.RowKit Go.Proofs.YtiocnkoogachkaaW.PrintWords Go.Proofs.Ytiocnkoogachkaa.Mp

theorem step_append_at {P : Program} {ops : Array Oper} {o : Oper} {a : Act} {w : World} {K : Act → World → Prop} {Q : Exit → Act → World → Prop} {E : Prop}
    (hg : o.guard = none) (s x : Operand) (t : TypeId) (ho : o.op = .call { callee := .builtin .append, args := #[s, x], argTypes := #[t, t] })
    (base : Nat) (e : TypeId) (i : TypeInfo) (z : Value) (size bytes : Nat) (ht : P.underlying t = some (.slice e)) (hi : P.info? e = some i) (hz : i.zero = some z)
    (hsize : i.size = size) (hby : i.bytes = bytes) (hzs : z.cells.size = size) (hsz : 0 < size)
    (v : Value) (n : Nat) (xs : List Value) (hs : a.eval s = v) (hown : w.ownsRow base e size v n xs)
    (ad : Addr) (m c : Nat) (news : List Value) (hx : a.eval x = .slice (some ad) m c) (hl : news.length = m * size) (hnews : ∀ j u, news[j]? = some u → w.cell? (ad.add j) = some u) (h1 : ∀ u ∈ news, u.oneCell' = true)
    (h63 : n + m ≤ maxLen) (hbytes : (n + m) * bytes ≤ 140737488355328) (hbase : base ≤ w.heap.size)
    (h : ∀ v' w', w'.ownsRow base e size v' (n + m) (xs ++ news) → w.grownBy w' v.ownBlock → (v'.ownBlock = v.ownBlock ∨ v'.ownBlock = some w.heap.size) → K (a.put o.dst v') w') :
    if Region.wanted o (yielded ops a.tmps) = true then Oper.wp P o a w K Q else E := by
  have hw : Region.wanted o (yielded ops a.tmps) = true := by simp [Region.wanted, hg]
  rw [if_pos hw]
  obtain ⟨v', w', hr, h2, h3, h4, h5⟩ := run_append_own_at (P := P) w base t o.type e i z size bytes ht hi hz hsize hby hzs hsz v n xs hown ad m c news hl hnews h1 h63 hbytes hbase
  unfold Oper.wp execOp
  simp only [ho, resolve, invoke, builtin, Sem.run_bind, Sem.run_pure, Result.andThen_ok, List.map_toArray, List.map_cons, List.map_nil, hs, hx, hr]
  exact h v' w' h2 h3 h5

theorem keys_app {κ ρ : Type} (L : List (It κ ρ)) (x : It κ ρ) : keys (L ++ [x]) = keys L ++ [x.key] := by simp [keys]
theorem own_app {κ ρ : Type} {F : HForm κ ρ} {base : Nat} {W : World} {e : TypeId} {v : Value} {n : Nat} {xs ys : List Value} (h : W.ownsRow base e F.sz v n xs) (he : xs = ys) : W.ownsRow base e F.sz v n ys := he ▸ h
theorem blk_al {W : World} {g : Nat} {o x : Obj} (h : W.heap[g]? = some o) : ((W.alloc x).drew).heap[g]? = some o := ((MapKept.heap_alloc W x).2 g (blk_lt h)).trans h
theorem own_sl_ {W : World} {base n s : Nat} {e : TypeId} {v : Value} {xs : List Value} (h : W.ownsRow base e s v (n + 1) xs) : ∃ g cap, v = .slice (some ⟨g, 0, none⟩) (n + 1) cap := by
  rcases h.2 with ⟨_, h⟩ | ⟨g, cap, _, h, _⟩
  · omega
  · exact ⟨g, cap, h⟩
theorem newrow (W : World) (e : TypeId) (cs : List Value) (j : Nat) (u : Value) (h : cs[j]? = some u) : ((W.alloc (.cells cs.toArray e)).drew).cell? ((⟨W.heap.size, 0, none⟩ : Addr).add j) = some u := by
  have e1 : (⟨W.heap.size, 0, none⟩ : Addr).add j = ⟨W.heap.size, j, none⟩ := by
    unfold Addr.add; by_cases h : j = 0 <;> simp [h]
  have h1 : ((W.alloc (.cells cs.toArray e)).drew).heap[W.heap.size]? = some (.cells cs.toArray e (0, 0)) := heap_alloc_new _ _
  rw [e1, blk_cell h1 j]
  simpa using h
theorem keys_dropLast {κ ρ : Type} (L : List (It κ ρ)) : keys L.dropLast = (keys L).dropLast := by simp [keys, List.map_dropLast]
theorem flat_dropLast {κ ρ : Type} (F : HForm κ ρ) (L : List (It κ ρ)) : flat F L.dropLast = (flat F L).take ((L.length - 1) * F.sz) := by
  rcases List.eq_nil_or_concat L with rfl | ⟨M, x, rfl⟩
  · simp [flat]
  · rw [List.concat_eq_append, List.dropLast_concat, flat_app, List.length_append, List.length_singleton, Nat.add_sub_cancel, ← flat_len F M, List.take_left]
/-- An item is taken out. -/
def DropR {κ ρ : Type} (A : ρ → ρ → Bool → Prop) (L : List (It κ ρ)) (i : Nat) (L' : List (It κ ρ)) : Prop :=
  (i < L.length - 1 ∧ ∃ L3, UpR A (swp L i (L.length - 1)).dropLast i L3 ∧ DownR A L3 i L') ∨ (i = L.length - 1 ∧ L' = (swp L i (L.length - 1)).dropLast)
/-- A call of a function value, as one step of a region that draws. -/
theorem step_callV {P : Program} {ops : Array Oper} {o : Oper} {a : Act} {w : World} {K : Act → World → Prop} {Q : Exit → Act → World → Prop} {E : Prop} (hw : Region.wanted o (yielded ops a.tmps) = true) {F : FuncId} {fn : Func} (x : Operand) (xs : Array Operand) (ts : Array TypeId)
    (hop : o.op = .call { callee := .value x, args := xs, argTypes := ts }) (cap : Array Value) (hx : a.eval x = .func (.func F) #[] cap) (hf : P.funcs[F]? = some fn) (hname : (fn.name == "runtime.NumGoroutine") = false) (hb : fn.body.isSome = true) (args : Array Value) (hargs : xs.map a.eval = args)
    (h : Calls P F (args ++ cap) w fun e w' => ∃ v, e = .returned v ∧ K (a.put o.dst v) w') : if Region.wanted o (yielded ops a.tmps) = true then Oper.wp P o a w K Q else E := by
  rw [if_pos hw]
  have he := YtiocnkoogachkaaW.PrintLast.enters_ hf hname hb (args ++ cap) w
  have hrun : (execOp a.eval o).run P w = .ok (.enter F (args ++ cap)) w := by
    unfold execOp
    simp [hop, resolve, Deferred.ofValue, invoke, hx, hargs, he]
  unfold Oper.wp
  rw [hrun, Oper.upon_enter]
  refine h.mono fun e w'' hh => ?_
  obtain ⟨v, rfl, hk⟩ := hh
  exact hk

/-- A call of a function value, behind a guard that lets it through. -/
theorem goesW_ {P : Program} {ops : Array Oper} {Q : Exit → Act → World → Prop} {rest : List Oper} {oi : Oper} {a : Act} {w : World} (hw : Region.wanted oi (yielded ops a.tmps) = true) {F : FuncId} {fn : Func} (x : Operand) (xs : Array Operand) (ts : Array TypeId)
    (hop : oi.op = .call { callee := .value x, args := xs, argTypes := ts }) (cap : Array Value) (hx : a.eval x = .func (.func F) #[] cap) (hf : P.funcs[F]? = some fn) (hname : (fn.name == "runtime.NumGoroutine") = false) (hb : fn.body.isSome = true) (args : Array Value) (hargs : xs.map a.eval = args)
    (h : Calls P F (args ++ cap) w fun e w' => ∃ v, e = .returned v ∧ wpList P ops Q rest (a.put oi.dst v) w') : wpList P ops Q (oi :: rest) a w := by
  refine BigFrame.wpList_want hw fun K hK => ?_
  have he := YtiocnkoogachkaaW.PrintLast.enters_ hf hname hb (args ++ cap) w
  have hrun : (execOp a.eval oi).run P w = .ok (.enter F (args ++ cap)) w := by
    unfold execOp
    simp [hop, resolve, Deferred.ofValue, invoke, hx, hargs, he]
  unfold Oper.wp
  rw [hrun, Oper.upon_enter]
  refine h.mono fun e w'' hh => ?_
  obtain ⟨v, rfl, hk⟩ := hh
  exact hK _ _ hk

section
variable {κ ρ : Type} [DecidableEq κ] {F : HForm κ ρ} {w w2 : World} {base hb pb : Nat} {lv sv : Value} {L : List (It κ ρ)} {c : Int} {S : Nat → Prop}
theorem place_app {L : List (It κ ρ)} {x : It κ ρ} (hx : x.key ∉ keys L) (k : κ) :
    (if k = x.key then some (Value.int .i64 (L.length : Int)) else (place L k).map (fun (i : Nat) => Value.int .i64 (i : Int))) = (place (L ++ [x]) k).map (fun (i : Nat) => Value.int .i64 (i : Int)) := by
  have h0 : place L x.key = none := (place_none _).2 hx
  unfold place at h0 ⊢
  rw [List.findIdx?_append]
  by_cases h : k = x.key
  · subst h
    rw [if_pos rfl, h0]
    simp
  · rw [if_neg h]
    cases hp : List.findIdx? (fun x => decide (x.key = k)) L with
    | some i => rfl
    | none => simp [Ne.symm h]
theorem place_dropLast {L : List (It κ ρ)} (hn : (keys L).Nodup) {x : It κ ρ} (hx : L[L.length - 1]? = some x) (k : κ) :
    (if k = x.key then none else (place L k).map (fun (i : Nat) => Value.int .i64 (i : Int))) = (place L.dropLast k).map (fun (i : Nat) => Value.int .i64 (i : Int)) := by
  have hn' : (keys L.dropLast).Nodup := by rw [keys_dropLast]; exact hn.sublist (List.dropLast_sublist _)
  have hl := (List.getElem?_eq_some_iff.1 hx).1
  have hlast := (place_iff hn x.key (L.length - 1)).2 ⟨x, hx, rfl⟩
  have e : ∀ i, place L.dropLast k = some i ↔ place L k = some i ∧ k ≠ x.key := by
    intro i
    rw [place_iff hn', place_iff hn]
    constructor
    · rintro ⟨y, hy, rfl⟩
      have hi := (List.getElem?_eq_some_iff.1 hy).1
      rw [List.length_dropLast] at hi
      rw [List.getElem?_dropLast, if_pos (by omega)] at hy
      refine ⟨⟨y, hy, rfl⟩, fun h => ?_⟩
      have := (place_iff hn x.key i).2 ⟨y, hy, h⟩
      rw [hlast] at this
      have := Option.some.inj this
      omega
    · rintro ⟨⟨y, hy, rfl⟩, h⟩
      have hi := (List.getElem?_eq_some_iff.1 hy).1
      refine ⟨y, ?_, rfl⟩
      rw [List.getElem?_dropLast, if_pos]
      · exact hy
      · rcases Nat.lt_or_ge i (L.length - 1) with h' | h'
        · exact h'
        · exfalso
          obtain rfl : i = L.length - 1 := by omega
          rw [hx] at hy; cases hy; exact h rfl
  by_cases hk : k = x.key
  · rw [if_pos hk]
    cases h : place L.dropLast k with
    | none => rfl
    | some i => exact absurd hk ((e i).1 h).2
  · rw [if_neg hk]
    congr 1
    apply Option.ext
    intro i
    rw [e]
    simp [hk]
end
end Go.Proofs.Ytiocnkoogachkaa.Hp
