/- This text has general lemmas on rows that a call owns, on calls of function values, and on append, for walks. -/
import Derived.Test.YtbaciaolhfmfkaaMp
import Derived.BigRegion
import Derived.BigQuiet
import Derived.Deep.QuietTactic
import Derived.Deep.DeepMust
import Derived.StillTailTactics
import Derived.Deep.RegionLaw
import Derived.Deep.RegionHeld3
import Derived.Deep.DeepCutAuto
import Derived.Deep.CutBlock
import Derived.Maps.AppendAt
namespace Go.Proofs.Ytbaciaolhfmfkaa.Ow
open Go.RowKit Go.Proofs.YtbaciaolhfmfkaaW Go.Proofs.YtbaciaolhfmfkaaW.PrintWords Go.Proofs.Ytbaciaolhfmfkaa.Mp
set_option linter.unusedVariables false
section
variable {P : Program} {ops : Array Oper} {Q : Exit → Act → World → Prop}
/-- A call of a function value. -/
theorem goesV_ {rest : List Oper} {oi : Oper} {a : Act} {w : World} (hg : oi.guard = none) {F : FuncId} {fn : Func} (x : Operand) (xs : Array Operand) (ts : Array TypeId) (hop : oi.op = .call { callee := .value x, args := xs, argTypes := ts })
    (cap : Array Value) (hx : a.eval x = .func (.func F) #[] cap) (hf : P.funcs[F]? = some fn) (hname : (fn.name == "runtime.NumGoroutine") = false) (hb : fn.body.isSome = true) (args : Array Value) (hargs : xs.map a.eval = args)
    (h : Calls P F (args ++ cap) w fun e w' => ∃ v, e = .returned v ∧ wpList P ops Q rest (a.put oi.dst v) w') : wpList P ops Q (oi :: rest) a w := by
  refine wpList_plain hg fun K hK => ?_
  have he := PrintLast.enters_ hf hname hb (args ++ cap) w
  have hrun : (execOp a.eval oi).run P w = .ok (.enter F (args ++ cap)) w := by
    unfold execOp
    simp [hop, resolve, Deferred.ofValue, invoke, hx, hargs, he]
  unfold Oper.wp
  rw [hrun, Oper.upon_enter]
  refine h.mono fun e w'' hh => ?_
  obtain ⟨v, rfl, hk⟩ := hh
  exact hK _ _ hk
end
theorem cell_alloc {W : World} {o : Obj} {a : Addr} {v : Value} (h : W.cell? a = some v) : (W.alloc o).cell? a = some v := by
  obtain ⟨ab, ao, ap⟩ := a
  have hb := World.block_lt_of_cell? W _ h
  simp only [World.cell?, World.alloc] at h ⊢
  rw [Array.getElem?_push_lt hb]
  rw [Array.getElem?_eq_getElem hb] at h
  exact h
theorem own_set {W : World} {base n cap g s : Nat} {e : TypeId} {xs : List Value} (h : W.ownsRow base e s (.slice (some ⟨g, 0, none⟩) n cap) n xs) (k : Nat) (a : Value) :
    (W.setCell ⟨g, k, none⟩ a).ownsRow base e s (.slice (some ⟨g, 0, none⟩) n cap) n (xs.set k a) := by
  obtain ⟨h1, h2⟩ := h
  refine ⟨by rw [List.length_set]; exact h1, ?_⟩
  rcases h2 with ⟨hv, _⟩ | ⟨g', cap', cur, hv, hb, hg, hc1, hc2, hc3, hc4⟩
  · cases hv
  · cases hv
    refine .inr ⟨g, cap, cur.setIfInBounds k a, rfl, hb, blk_put hg k a rfl, hc1, hc2, by simpa using hc3, ?_⟩
    rw [Array.toList_setIfInBounds, List.take_set, hc4]
theorem own_blk? {W : World} {base n cap g s : Nat} {e : TypeId} {xs : List Value} (h : W.ownsRow base e s (.slice (some ⟨g, 0, none⟩) n cap) n xs) : ∃ cur, W.heap[g]? = some (.cells cur e (0, 0)) ∧ base ≤ g ∧ n ≤ cap ∧ cap ≤ maxLen ∧ cur.size = cap * s ∧ cur.toList.take (n * s) = xs := by
  obtain ⟨h1, h2⟩ := h
  rcases h2 with ⟨hv, _⟩ | ⟨g', cap', cur, hv, hb, hg, hc1, hc2, hc3, hc4⟩
  · cases hv
  · cases hv
    exact ⟨cur, hg, hb, hc1, hc2, hc3, hc4⟩
theorem _root_.Go.World.ownsRow.kept_ {W W2 : World} {base n cap g s : Nat} {e : TypeId} {xs : List Value} {S : Nat → Prop} (h : W.ownsRow base e s (.slice (some ⟨g, 0, none⟩) n cap) n xs) (hk : Kp W W2 S) (hg : ¬ S g) : W2.ownsRow base e s (.slice (some ⟨g, 0, none⟩) n cap) n xs := by
  obtain ⟨cur, h1, h2, h3, h4, h5, h6⟩ := own_blk? h
  exact ⟨h.1, .inr ⟨g, cap, cur, rfl, h2, blk_kp h1 hk hg, h3, h4, h5, h6⟩⟩
theorem own_drew {W : World} {base n s : Nat} {v : Value} {e : TypeId} {xs : List Value} (h : W.ownsRow base e s v n xs) : W.drew.ownsRow base e s v n xs := h
theorem own_cell {W : World} {base n cap g s : Nat} {e : TypeId} {xs : List Value} (h : W.ownsRow base e s (.slice (some ⟨g, 0, none⟩) n cap) n xs) (k : Nat) (v : Value) (hk : xs[k]? = some v) : W.cell? ⟨g, k, none⟩ = some v := by
  obtain ⟨cur, hg, _, _, _, _, hc⟩ := own_blk? h
  rw [blk_cell hg k, ← Array.getElem?_toList]
  rw [← hc] at hk
  have := (List.getElem?_eq_some_iff.1 hk).1
  rw [List.getElem?_take] at hk
  split at hk
  · exact hk
  · cases hk
theorem own_frozen {W : World} {base n cap g s : Nat} {e : TypeId} {xs : List Value} (h : W.ownsRow base e s (.slice (some ⟨g, 0, none⟩) n cap) n xs) (k : Nat) : W.frozen? ⟨g, k, none⟩ = false := by
  obtain ⟨cur, hg, _⟩ := own_blk? h
  exact blk_frozen hg k

theorem step_append_at {P : Program} {ops : Array Oper} {o : Oper} {a : Act} {w : World} {K : Act → World → Prop} {Q : Exit → Act → World → Prop} {E : Prop}
    (hg : o.guard = none) (s x : Operand) (t : TypeId) (ho : o.op = .call { callee := .builtin .append, args := #[s, x], argTypes := #[t, t] })
    (base : Nat) (e : TypeId) (i : TypeInfo) (z : Value) (size bytes : Nat) (ht : P.underlying t = some (.slice e)) (hi : P.info? e = some i) (hz : i.zero = some z)
    (hsize : i.size = size) (hby : i.bytes = bytes) (hzs : z.cells.size = size) (hsz : 0 < size)
    (v : Value) (n : Nat) (xs : List Value) (hs : a.eval s = v) (hown : w.ownsRow base e size v n xs)
    (ad : Addr) (m c : Nat) (news : List Value) (hx : a.eval x = .slice (some ad) m c) (hl : news.length = m * size) (hnews : ∀ j u, news[j]? = some u → w.cell? (ad.add j) = some u) (h1 : ∀ u ∈ news, u.oneCell' = true)
    (h63 : n + m ≤ maxLen) (hbytes : (n + m) * bytes ≤ 140737488355328) (hbase : base ≤ w.heap.size)
    (h : ∀ v' w', w'.ownsRow base e size v' (n + m) (xs ++ news) → w.grownBy w' v.ownBlock → (v'.ownBlock = v.ownBlock ∨ v'.ownBlock = some w.heap.size) → K (a.put o.dst v') w') :
    if Region.wanted o (yielded ops a.tmps) = true then Oper.wp P o a w K Q else E := by
  have hw : Region.wanted o (yielded ops a.tmps) = true := by simp [Region.wanted, hg]
  rw [if_pos hw]
  obtain ⟨v', w', hr, h2, h3, h4, h5⟩ := run_append_own_at (P := P) w base t o.type e i z size bytes ht hi hz hsize hby hzs hsz v n xs hown ad m c news hl hnews h1 h63 hbytes hbase
  unfold Oper.wp execOp
  simp only [ho, resolve, invoke, builtin, Sem.run_bind, Sem.run_pure, Result.andThen_ok, List.map_toArray, List.map_cons, List.map_nil, hs, hx, hr]
  exact h v' w' h2 h3 h5

theorem blk_al {W : World} {g : Nat} {o x : Obj} (h : W.heap[g]? = some o) : ((W.alloc x).drew).heap[g]? = some o := ((MapKept.heap_alloc W x).2 g (blk_lt h)).trans h
theorem own_sl_ {W : World} {base n s : Nat} {e : TypeId} {v : Value} {xs : List Value} (h : W.ownsRow base e s v (n + 1) xs) : ∃ g cap, v = .slice (some ⟨g, 0, none⟩) (n + 1) cap := by
  rcases h.2 with ⟨_, h⟩ | ⟨g, cap, _, h, _⟩
  · omega
  · exact ⟨g, cap, h⟩
theorem newrow (W : World) (e : TypeId) (cs : List Value) (j : Nat) (u : Value) (h : cs[j]? = some u) : ((W.alloc (.cells cs.toArray e)).drew).cell? ((⟨W.heap.size, 0, none⟩ : Addr).add j) = some u := by
  have e1 : (⟨W.heap.size, 0, none⟩ : Addr).add j = ⟨W.heap.size, j, none⟩ := by
    unfold Addr.add; by_cases h : j = 0 <;> simp [h]
  have h1 : ((W.alloc (.cells cs.toArray e)).drew).heap[W.heap.size]? = some (.cells cs.toArray e (0, 0)) := heap_alloc_new _ _
  rw [e1, blk_cell h1 j]
  simpa using h
/-- A call of a function value, as one step of a region that draws. -/
theorem step_callV {P : Program} {ops : Array Oper} {o : Oper} {a : Act} {w : World} {K : Act → World → Prop} {Q : Exit → Act → World → Prop} {E : Prop} (hw : Region.wanted o (yielded ops a.tmps) = true) {F : FuncId} {fn : Func} (x : Operand) (xs : Array Operand) (ts : Array TypeId)
    (hop : o.op = .call { callee := .value x, args := xs, argTypes := ts }) (cap : Array Value) (hx : a.eval x = .func (.func F) #[] cap) (hf : P.funcs[F]? = some fn) (hname : (fn.name == "runtime.NumGoroutine") = false) (hb : fn.body.isSome = true) (args : Array Value) (hargs : xs.map a.eval = args)
    (h : Calls P F (args ++ cap) w fun e w' => ∃ v, e = .returned v ∧ K (a.put o.dst v) w') : if Region.wanted o (yielded ops a.tmps) = true then Oper.wp P o a w K Q else E := by
  rw [if_pos hw]
  have he := YtbaciaolhfmfkaaW.PrintLast.enters_ hf hname hb (args ++ cap) w
  have hrun : (execOp a.eval o).run P w = .ok (.enter F (args ++ cap)) w := by
    unfold execOp
    simp [hop, resolve, Deferred.ofValue, invoke, hx, hargs, he]
  unfold Oper.wp
  rw [hrun, Oper.upon_enter]
  refine h.mono fun e w'' hh => ?_
  obtain ⟨v, rfl, hk⟩ := hh
  exact hk

/-- A call of a function value, behind a guard that lets it through. -/
theorem goesW_ {P : Program} {ops : Array Oper} {Q : Exit → Act → World → Prop} {rest : List Oper} {oi : Oper} {a : Act} {w : World} (hw : Region.wanted oi (yielded ops a.tmps) = true) {F : FuncId} {fn : Func} (x : Operand) (xs : Array Operand) (ts : Array TypeId)
    (hop : oi.op = .call { callee := .value x, args := xs, argTypes := ts }) (cap : Array Value) (hx : a.eval x = .func (.func F) #[] cap) (hf : P.funcs[F]? = some fn) (hname : (fn.name == "runtime.NumGoroutine") = false) (hb : fn.body.isSome = true) (args : Array Value) (hargs : xs.map a.eval = args)
    (h : Calls P F (args ++ cap) w fun e w' => ∃ v, e = .returned v ∧ wpList P ops Q rest (a.put oi.dst v) w') : wpList P ops Q (oi :: rest) a w := by
  refine BigFrame.wpList_want hw fun K hK => ?_
  have he := YtbaciaolhfmfkaaW.PrintLast.enters_ hf hname hb (args ++ cap) w
  have hrun : (execOp a.eval oi).run P w = .ok (.enter F (args ++ cap)) w := by
    unfold execOp
    simp [hop, resolve, Deferred.ofValue, invoke, hx, hargs, he]
  unfold Oper.wp
  rw [hrun, Oper.upon_enter]
  refine h.mono fun e w'' hh => ?_
  obtain ⟨v, rfl, hk⟩ := hh
  exact hK _ _ hk

theorem row_kp {w w2 : World} {base n s : Nat} {v : Value} {e : TypeId} {xs : List Value} {S : Nat → Prop} (h : w.ownsRow base e s v n xs) (hk : Kp w w2 S) (hS : ∀ b, v.ownBlock = some b → ¬ S b) : w2.ownsRow base e s v n xs := by
  rcases h.2 with ⟨hv, hn⟩ | ⟨g, cap, cur, rfl, hg⟩
  · exact ⟨h.1, .inl ⟨hv, hn⟩⟩
  · exact World.ownsRow.kept_ h hk (hS g rfl)
theorem row_blk {w : World} {base n s b : Nat} {v : Value} {e : TypeId} {xs : List Value} (h : w.ownsRow base e s v n xs) (hb : v.ownBlock = some b) : base ≤ b ∧ b < w.heap.size := by
  rcases h.2 with ⟨hv, hn⟩ | ⟨g, cap, cur, rfl, h1, h2, _⟩
  · rw [hv] at hb; cases hb
  · cases hb; exact ⟨h1, blk_lt h2⟩

theorem dr (w : World) : Kp w w.drew (fun _ => False) := (Kp.refl _ _).drew
theorem kp_put {w : World} {g i : Nat} (v : Value) : Kp w (w.setCell ⟨g, i, none⟩ v) (fun k => k = g) := by
  refine Kp.setCell (Kp.refl _ _) ?_ _
  left; rfl
theorem kp_grown {w w2 : World} {v : Value} (h : w.grownBy w2 v.ownBlock) : Kp w w2 (fun q => v.ownBlock = some q) := ⟨h.size, fun k hk hn => h.block k hk (fun e => hn e.symm), h.os, h.tape, h.output⟩
theorem kp_new {w w1 w2 : World} {S S2 : Nat → Prop} (h : Kp w w1 S) (h2 : Kp w1 w2 S2) (hs : ∀ k, S2 k → w.heap.size ≤ k) : Kp w w2 S := h.then_ h2 (fun k hk => .inr (hs k hk))
theorem size_set (w : World) (a : Addr) (v : Value) : (w.setCell a v).heap.size = w.heap.size := by simp [World.setCell]
theorem add_field (a : Addr) (n m : Nat) (hm : 0 < m) : a.add (n + m) = ⟨(a.add n).block, (a.add n).off + m, none⟩ := by
  unfold Addr.add
  by_cases h : n = 0
  · subst h
    simp [show m ≠ 0 by omega]
  · simp [h, Nat.add_assoc]
theorem row_lower {w : World} {base b2 n s : Nat} {v : Value} {e : TypeId} {xs : List Value} (h : w.ownsRow base e s v n xs) (hb : b2 ≤ base) : w.ownsRow b2 e s v n xs := by
  rcases h.2 with hv | ⟨g, cap, cur, hv, h1, h2⟩
  · exact ⟨h.1, .inl hv⟩
  · exact ⟨h.1, .inr ⟨g, cap, cur, hv, Nat.le_trans hb h1, h2⟩⟩
theorem wpList_append_at {P : Program} {ops : Array Oper} {rest : List Oper} {o : Oper} {a : Act} {w : World} {Q : Exit → Act → World → Prop}
    (hg : o.guard = none) (s x : Operand) (t : TypeId) (ho : o.op = .call { callee := .builtin .append, args := #[s, x], argTypes := #[t, t] })
    (base : Nat) (e : TypeId) (i : TypeInfo) (z : Value) (size bytes : Nat) (ht : P.underlying t = some (.slice e)) (hi : P.info? e = some i) (hz : i.zero = some z)
    (hsize : i.size = size) (hby : i.bytes = bytes) (hzs : z.cells.size = size) (hsz : 0 < size)
    (v : Value) (n : Nat) (xs : List Value) (hs : a.eval s = v) (hown : w.ownsRow base e size v n xs)
    (ad : Addr) (m c : Nat) (news : List Value) (hx : a.eval x = .slice (some ad) m c) (hl : news.length = m * size) (hnews : ∀ j u, news[j]? = some u → w.cell? (ad.add j) = some u) (h1 : ∀ u ∈ news, u.oneCell' = true)
    (h63 : n + m ≤ maxLen) (hbytes : (n + m) * bytes ≤ 140737488355328) (hbase : base ≤ w.heap.size)
    (h : ∀ v' w', w'.ownsRow base e size v' (n + m) (xs ++ news) → w.grownBy w' v.ownBlock → (v'.ownBlock = v.ownBlock ∨ v'.ownBlock = some w.heap.size) → wpList P ops Q rest (a.put o.dst v') w') :
    wpList P ops Q (o :: rest) a w := by
  refine wpList_plain hg fun K hK => ?_
  obtain ⟨v', w', hr, h2, h3, h4, h5⟩ := run_append_own_at (P := P) w base t o.type e i z size bytes ht hi hz hsize hby hzs hsz v n xs hown ad m c news hl hnews h1 h63 hbytes hbase
  unfold Oper.wp execOp
  simp only [ho, resolve, invoke, builtin, Sem.run_bind, Sem.run_pure, Result.andThen_ok, List.map_toArray, List.map_cons, List.map_nil, hs, hx, hr]
  exact hK _ _ (h v' w' h2 h3 h5)
/-- The same for a row made by this very statement, in the world before it. -/
theorem newrow0 (W : World) (e : TypeId) (cs : List Value) (j : Nat) (u : Value) (h : cs[j]? = some u) : (W.alloc (.cells cs.toArray e)).cell? ((⟨W.heap.size, 0, none⟩ : Addr).add j) = some u := by
  have e1 : (⟨W.heap.size, 0, none⟩ : Addr).add j = ⟨W.heap.size, j, none⟩ := by
    unfold Addr.add; by_cases h : j = 0 <;> simp [h]
  have h1 : (W.alloc (.cells cs.toArray e)).heap[W.heap.size]? = some (.cells cs.toArray e (0, 0)) := heap_alloc_new _ _
  rw [e1, blk_cell h1 j]
  simpa using h
theorem add0 (g j : Nat) : (⟨g, 0, none⟩ : Addr).add j = ⟨g, j, none⟩ := by
  unfold Addr.add; by_cases h : j = 0 <;> simp [h]
theorem loc_ {v v' : Value} {n : Nat} (h : v'.ownBlock = v.ownBlock ∨ v'.ownBlock = some n) (q : Nat) (hq : v'.ownBlock = some q) : v.ownBlock = some q ∨ n ≤ q := by
  rcases h with e | e
  · exact .inl (by rw [← e]; exact hq)
  · rw [e] at hq; cases hq; exact .inr (Nat.le_refl _)
/-- A world that has grown: new blocks alone. For a region that draws its order, reads, and calls what makes memory: one walk in the text's order serves. -/
def Gr (w : World) : Type := { w' : World // Kp w w' (fun _ => False) }
def Gr.w {w : World} (g : Gr w) : World := g.val
instance {w : World} : Nonempty (Gr w) := ⟨⟨w, Kp.refl _ _⟩⟩
theorem Gr.kept {w : World} (g : Gr w) : Kp w g.w (fun _ => False) := g.property
theorem Gr.cell {w : World} {a : Addr} {v : Value} (h : w.cell? a = some v) (g : Gr w) : g.w.cell? a = some v := cell_kp h g.kept (fun h => h)
theorem wp_region_grown {P : Program} {id : Nat} {Q : Exit → Act → World → Prop} {a : Act} {w : World} {l : List Oper} (hm : P.follows .mixedOrders = true) (hB : Region.lexB .any l.toArray = true)
    (h : wpQuiet P l.toArray (fun w' => ∃ g : Gr w, w' = g.w) (fun a' => ∀ w', (∃ g : Gr w, w' = g.w) → Q .normal a' w') l a) : (Code.region id l.toArray true).wp P Q a w :=
  wp_region_quiet (C := fun w' => ∃ g : Gr w, w' = g.w) hm hB ⟨⟨w.drew, dr w⟩, rfl⟩ (by simpa using h)
theorem Gr.call {P : Program} {f : FuncId} {args : Array Value} {w : World} {v : Value} (g : Gr w) (h : Calls P f args g.w fun e w' => e = .returned v ∧ Kp g.w w' (fun _ => False)) : Calls P f args g.w fun e w'' => e = .returned v ∧ ∃ g' : Gr w, w'' = g'.w :=
  h.mono fun _ w' ⟨he, hk⟩ => ⟨he, ⟨w', g.kept.then_ hk (fun _ h => .inl h)⟩, rfl⟩
theorem Gr.callD {P : Program} {f : FuncId} {args : Array Value} {w : World} {v : Value} (g : Gr w) (h : Calls P f args g.w fun e w' => e = .returned v ∧ ∃ n, w' = g.w.drewN n) : Calls P f args g.w fun e w'' => e = .returned v ∧ ∃ g' : Gr w, w'' = g'.w :=
  h.mono fun _ w' ⟨he, n, hn⟩ => ⟨he, ⟨w', by rw [hn]; exact g.kept.drewN n⟩, rfl⟩
end Go.Proofs.Ytbaciaolhfmfkaa.Ow
