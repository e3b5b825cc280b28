/- This text proves the law SpansOwn as a walk: an iterator gives the runs that there were when it was asked for, each time; no answered list or clone shares memory with the set. -/
import Derived.Test.YtbaciaolhfmfkaaVa
import Derived.Test.YtbaciaolhfmfkaaVq
import Derived.Test.YtbaciaolhfmfkaaLpu8
import Derived.Test.YtbaciaolhfmfkaaFl
import Derived.Test.YtbaciaolhfmfkaaAw
import Derived.Deep.DeepCutAuto
import Derived.Deep.CutBlock
import Derived.Deep.QuietTactic
import Derived.Deep.RegionHeld3
import Derived.Deep.DeepMust
import Derived.BigQuiet
namespace Go.Proofs.Ytbaciaolhfmfkaa.Va
open Go.RowKit Go.Shelf Go.Proofs.YtbaciaolhfmfkaaW.PrintWords Go.Proofs.YtbaciaolhfmfkaaW.PrintLast Go.Proofs.Ytbaciaolhfmfkaa.Mp Go.Proofs.Ytbaciaolhfmfkaa.Ow Go.Proofs.Ytbaciaolhfmfkaa.Sp Go.Proofs.Ytbaciaolhfmfkaa.Su8 Go.Proofs.Ytbaciaolhfmfkaa.Op Go.Proofs.Ytbaciaolhfmfkaa.Fl Go.Proofs.Ytbaciaolhfmfkaa.Rf
set_option linter.unusedVariables false
set_option linter.unusedSimpArgs false
attribute [local go_sem] Oper.semAt_some
/-- What the iterator's closure holds. -/
def AlQ (wc W : World) (Bs : Nat) (cv : Value) (R : List Run) : Prop := W.heap[Bs]? = some (.cells #[cv] 26 (0, 0)) ∧ wc.heap.size ≤ Bs ∧ ∃ base, wc.heap.size ≤ base ∧ W.ownsRow base 29 2 cv R.length (flat R)
/-- The clone. -/
def ClQ (wc W : World) (q : Nat) (sq : Value) (R : List Run) : Prop := ∃ base, wc.heap.size ≤ base ∧ SetAt W base q sq R
/-- The list that was told. -/
def WsQ (wc W : World) (v : Value) (R : List Run) : Prop := ∃ base, wc.heap.size ≤ base ∧ W.ownsRow base 42 2 v R.length (flatI R)
/-- The box of that list. -/
def BnQ (wc W : World) (b : Nat) (u : Value) : Prop := W.heap[b]? = some (.cells #[u] 39 (0, 0)) ∧ wc.heap.size ≤ b
section
variable {wc W W2 : World} {Bs b q : Nat} {cv u v sq : Value} {R : List Run} {Sx : Nat → Prop}
theorem AlQ.keep (h : AlQ wc W Bs cv R) (K : Kp W W2 Sx) (hS : ∀ k, wc.heap.size ≤ k → k < W.heap.size → ¬ Sx k) : AlQ wc W2 Bs cv R := by
  obtain ⟨h1, h2, base, h3, h4⟩ := h
  exact ⟨blk_kp h1 K (hS _ h2 (blk_lt h1)), h2, base, h3, row_kp h4 K (fun k hk => hS k (Nat.le_trans h3 (row_blk h4 hk).1) (row_blk h4 hk).2)⟩
theorem ClQ.keep (h : ClQ wc W q sq R) (K : Kp W W2 Sx) (hS : ∀ k, wc.heap.size ≤ k → k < W.heap.size → ¬ Sx k) : ClQ wc W2 q sq R := by
  obtain ⟨base, h3, h4⟩ := h
  exact ⟨base, h3, h4.kept K (hS _ (Nat.le_trans h3 h4.pbase) (blk_lt h4.head)) (fun k hk => hS k (Nat.le_trans h3 (row_blk h4.own hk).1) (row_blk h4.own hk).2)⟩
theorem WsQ.keep (h : WsQ wc W v R) (K : Kp W W2 Sx) (hS : ∀ k, wc.heap.size ≤ k → k < W.heap.size → ¬ Sx k) : WsQ wc W2 v R := by
  obtain ⟨base, h3, h4⟩ := h
  exact ⟨base, h3, row_kp h4 K (fun k hk => hS k (Nat.le_trans h3 (row_blk h4 hk).1) (row_blk h4 hk).2)⟩
theorem BnQ.keep (h : BnQ wc W b u) (K : Kp W W2 Sx) (hS : ∀ k, wc.heap.size ≤ k → k < W.heap.size → ¬ Sx k) : BnQ wc W2 b u := ⟨blk_kp h.1 K (hS _ h.2 (blk_lt h.1)), h.2⟩
theorem AlQ.stay (h : AlQ wc W Bs cv R) (K : Kp W W2 (fun _ => False)) : AlQ wc W2 Bs cv R := h.keep K (fun _ _ _ h => h)
theorem ClQ.stay (h : ClQ wc W q sq R) (K : Kp W W2 (fun _ => False)) : ClQ wc W2 q sq R := h.keep K (fun _ _ _ h => h)
theorem WsQ.stay (h : WsQ wc W v R) (K : Kp W W2 (fun _ => False)) : WsQ wc W2 v R := h.keep K (fun _ _ _ h => h)
theorem BnQ.stay (h : BnQ wc W b u) (K : Kp W W2 (fun _ => False)) : BnQ wc W2 b u := h.keep K (fun _ _ _ h => h)
theorem AlQ.put {u2 : Value} (h : AlQ wc W Bs cv R) (g : BnQ wc W b u) : AlQ wc (W.setCell ⟨b, 0, none⟩ u2) Bs cv R := by
  obtain ⟨h1, h2, base, h3, h4⟩ := h
  have K : Kp W (W.setCell ⟨b, 0, none⟩ u2) (fun q => q = b) := kp_put _
  exact ⟨blk_kp h1 K (blk_ne h1 g.1 (by decide)), h2, base, h3, row_kp h4 K (fun k hk e => row_type_ne h4 g.1 (by decide) (by rw [← e]; exact hk))⟩
theorem ClQ.put {u2 : Value} (h : ClQ wc W q sq R) (g : BnQ wc W b u) : ClQ wc (W.setCell ⟨b, 0, none⟩ u2) q sq R := by
  obtain ⟨base, h3, h4⟩ := h
  have K : Kp W (W.setCell ⟨b, 0, none⟩ u2) (fun q => q = b) := kp_put _
  exact ⟨base, h3, h4.kept K (blk_ne h4.head g.1 (by decide)) (fun k hk e => row_type_ne h4.own g.1 (by decide) (by rw [← e]; exact hk))⟩
theorem WsQ.put {u2 : Value} (h : WsQ wc W v R) (g : BnQ wc W b u) : WsQ wc (W.setCell ⟨b, 0, none⟩ u2) v R := by
  obtain ⟨base, h3, h4⟩ := h
  have K : Kp W (W.setCell ⟨b, 0, none⟩ u2) (fun q => q = b) := kp_put _
  exact ⟨base, h3, row_kp h4 K (fun k hk e => row_type_ne h4 g.1 (by decide) (by rw [← e]; exact hk))⟩
theorem BnQ.put (g : BnQ wc W b u) (u2 : Value) : BnQ wc (W.setCell ⟨b, 0, none⟩ u2) b u2 := ⟨blk_put g.1 0 _ rfl, g.2⟩
end
theorem flatI_at : ∀ (R : List Run) (i : Nat) (r : Run), R[i]? = some r → (flatI R)[i * 2]? = some (.int .i64 r.1) ∧ (flatI R)[i * 2 + 1]? = some (.int .i64 r.2)
  | [], i, r, h => by cases h
  | s :: R, 0, r, h => by
    obtain rfl : s = r := by simpa using h
    exact ⟨rfl, rfl⟩
  | s :: R, i + 1, r, h => by
    obtain ⟨h1, h2⟩ := flatI_at R i r (by simpa using h)
    have e : flatI (s :: R) = .int .i64 s.1 :: .int .i64 s.2 :: flatI R := rfl
    rw [e, show (i + 1) * 2 = i * 2 + 1 + 1 by omega, List.getElem?_cons_succ, List.getElem?_cons_succ, show i * 2 + 1 + 1 + 1 = (i * 2 + 1) + 1 + 1 by omega, List.getElem?_cons_succ, List.getElem?_cons_succ]
    exact ⟨h1, h2⟩
theorem told_cells {w : World} {base n : Nat} {a : Option Addr} {cap : Nat} {R : List Run} (h : w.ownsRow base 42 2 (.slice a n cap) R.length (flatI R)) {i : Nat} {r : Run} (hr : R[i]? = some r) :
    ∃ g, a = some ⟨g, 0, none⟩ ∧ w.cell? ⟨g, i * 2, none⟩ = some (.int .i64 r.1) ∧ w.cell? ⟨g, i * 2 + 1, none⟩ = some (.int .i64 r.2) := by
  have hi := (List.getElem?_eq_some_iff.1 hr).1
  obtain ⟨a', cap', he, hg⟩ := Su8.own_slice h
  obtain ⟨g, rfl⟩ := hg (by omega)
  cases he
  obtain ⟨h1, h2⟩ := flatI_at R i r hr
  exact ⟨g, rfl, own_cell h _ _ h1, own_cell h _ _ h2⟩
/-- What the law holds and never changes: boxes, the iterator's row, the told list, the clone, the second list. -/
structure Sta (G : Nat → Prop) (w7 W : World) (s0 b7 p q Bs b10 : Nat) (stop : Int) (sq cv wv v2 : Value) (R : List Run) : Prop where
  b3 : W.heap[s0]? = some (.cells #[.int .i64 stop] 3 (0, 0))
  b4 : W.heap[s0 + 1]? = some (.cells #[.bool false] 4 (0, 0))
  sb : W.heap[b7]? = some (.cells #[.pointer (some ⟨p, 0, none⟩)] 23 (0, 0))
  wb : W.heap[b10]? = some (.cells #[wv] 39 (0, 0))
  it : W.heap[Bs]? = some (.cells #[cv] 26 (0, 0))
  itr : ∃ base, W.ownsRow base 29 2 cv R.length (flat R)
  wr : ∃ base, W.ownsRow base 42 2 wv R.length (flatI R)
  cl : ∃ base, SetAt W base q sq R
  tw : ∃ base, W.ownsRow base 29 2 v2 R.length (flat R)
  sep : ¬ G s0 ∧ ¬ G (s0 + 1) ∧ ¬ G b7 ∧ ¬ G b10 ∧ ¬ G Bs ∧ ¬ G q
  sepr : ∀ k, (cv.ownBlock = some k ∨ wv.ownBlock = some k ∨ sq.ownBlock = some k ∨ v2.ownBlock = some k) → ¬ G k
  kp : Kp w7 W G
  up : ∀ k, w7.heap.size ≤ k → G k
section
variable {G S : Nat → Prop} {w7 W W2 : World} {s0 b7 p q Bs b10 : Nat} {stop : Int} {sq cv wv v2 : Value} {R : List Run}
theorem Sta.keep (h : Sta G w7 W s0 b7 p q Bs b10 stop sq cv wv v2 R) (K : Kp W W2 S) (hS : ∀ k, S k → G k) : Sta G w7 W2 s0 b7 p q Bs b10 stop sq cv wv v2 R := by
  obtain ⟨g1, g2, g3, g4, g5, g6⟩ := h.sep
  obtain ⟨i1, i2⟩ := h.itr
  obtain ⟨r1, r2⟩ := h.wr
  obtain ⟨l1, l2⟩ := h.cl
  obtain ⟨t1, t2⟩ := h.tw
  exact ⟨blk_kp h.b3 K (fun x => g1 (hS _ x)), blk_kp h.b4 K (fun x => g2 (hS _ x)), blk_kp h.sb K (fun x => g3 (hS _ x)), blk_kp h.wb K (fun x => g4 (hS _ x)), blk_kp h.it K (fun x => g5 (hS _ x)),
    ⟨i1, row_kp i2 K (fun k hk x => h.sepr k (.inl hk) (hS _ x))⟩, ⟨r1, row_kp r2 K (fun k hk x => h.sepr k (.inr (.inl hk)) (hS _ x))⟩, ⟨l1, l2.kept K (fun x => g6 (hS _ x)) (fun k hk x => h.sepr k (.inr (.inr (.inl hk))) (hS _ x))⟩, ⟨t1, row_kp t2 K (fun k hk x => h.sepr k (.inr (.inr (.inr hk))) (hS _ x))⟩,
    h.sep, h.sepr, h.kp.then_ K (fun k hk => .inl (hS k hk)), h.up⟩
theorem Sta.stay (h : Sta G w7 W s0 b7 p q Bs b10 stop sq cv wv v2 R) (K : Kp W W2 (fun _ => False)) : Sta G w7 W2 s0 b7 p q Bs b10 stop sq cv wv v2 R := h.keep K (fun _ h => h.elim)
end
theorem sta_mk {wa w4 w5 w7 : World} {s0 b7 p q Bs b10 base2 : Nat} {stop : Int} {sq cv wv v1 v2 : Value} {R : List Run} (B3 : wa.heap[s0]? = some (.cells #[.int .i64 stop] 3 (0, 0))) (B4 : wa.heap[s0 + 1]? = some (.cells #[.bool false] 4 (0, 0))) (Ka : Kp wa w7 (fun _ => False))
    (hb7 : w5.heap[b7]? = some (.cells #[.pointer (some ⟨p, 0, none⟩)] 23 (0, 0))) (h1 : p < b7) (h2 : b7 < w4.heap.size) (h45 : w4.heap.size ≤ w5.heap.size) (hs : s0 + 1 < wa.heap.size) (hcl : ClQ w4 w5 q sq R) (hal : AlQ w4 w5 Bs cv R) (hws : WsQ w4 w5 wv R) (hbn : BnQ w4 w5 b10 wv) (K : Kp w5 w7 (fun _ => False))
    (o1 : w7.ownsRow w5.heap.size 29 2 v1 R.length (flat R)) (o2 : w7.ownsRow base2 29 2 v2 R.length (flat R)) (h3 : w5.heap.size ≤ base2) (h4 : ∀ k, v1.ownBlock = some k → k < base2) (h57 : w5.heap.size ≤ w7.heap.size) (hp : wa.heap.size = p) :
    Sta (fun k => (v1.ownBlock = some k ∨ k = p) ∨ w7.heap.size ≤ k) w7 w7 s0 b7 p q Bs b10 stop sq cv wv v2 R := by
  obtain ⟨bc, hc1, hc2⟩ := hcl
  obtain ⟨ha1, ha2, ba, ha3, ha4⟩ := hal
  obtain ⟨bw, hw1, hw2⟩ := hws
  have hlow : ∀ k, k < w5.heap.size → k ≠ p → ¬ ((v1.ownBlock = some k ∨ k = p) ∨ w7.heap.size ≤ k) := fun k hk hne h => by
    rcases h with (h | h) | h
    · have := (row_blk o1 h).1; omega
    · exact hne h
    · omega
  have hq := blk_lt hc2.head
  have hqp := hc2.pbase
  have hBs := blk_lt ha1
  have hb10 := blk_lt hbn.1
  have hb10' := hbn.2
  refine ⟨blk_kp B3 Ka (fun h => h), blk_kp B4 Ka (fun h => h), blk_kp hb7 K (fun h => h), blk_kp hbn.1 K (fun h => h), blk_kp ha1 K (fun h => h), ⟨_, row_kp ha4 K (fun _ _ h => h)⟩, ⟨_, row_kp hw2 K (fun _ _ h => h)⟩, ⟨_, hc2.stay K⟩, ⟨_, o2⟩,
    ⟨hlow _ (by omega) (by omega), hlow _ (by omega) (by omega), hlow _ (by omega) (by omega), hlow _ (by omega) (by omega), hlow _ (by omega) (by omega), hlow _ (by omega) (by omega)⟩, fun k hk => ?_, Kp.refl _ _, fun k hk => .inr hk⟩
  rcases hk with hk | hk | hk | hk
  · have := row_blk ha4 hk; exact hlow k (by omega) (by omega)
  · have := row_blk hw2 hk; exact hlow k (by omega) (by omega)
  · have := row_blk hc2.own hk; exact hlow k (by omega) (by omega)
  · have := row_blk o2 hk
    intro h
    rcases h with (h | h) | h
    · have := h4 k h; omega
    · omega
    · omega
theorem kp_row {w w2 : World} {row : Option Nat} (h : w.grownBy w2 row) : Kp w w2 (fun q => row = some q) := ⟨h.size, fun k hk hn => h.block k hk (fun e => hn e.symm), h.os, h.tape, h.output⟩
theorem kf_of {B : Nat} {W W' : World} {S : Nat → Prop} (K : Kp W W' S) (hS : ∀ k, S k → k < B) : KeepsFrom B W W' := ⟨K.size, fun k o hB ho _ => blk_kp ho K (fun hs => by have := hS k hs; omega)⟩
/-- A run as it is read. -/
def cn (x : Run) : Run := (IntKind.i64.wrap x.1, IntKind.i64.wrap x.2)
theorem cn_map {R : List Run} (h : ∀ r ∈ R, (0 ≤ r.1 ∧ r.1 ≤ 255) ∧ 0 ≤ r.2 ∧ r.2 ≤ 255) : R.map cn = R := by
  conv => rhs; rw [← List.map_id R]
  refine List.map_congr_left fun r hr => ?_
  obtain ⟨h1, h2⟩ := h r hr
  obtain ⟨a, b⟩ := r
  unfold cn
  simp only at h1 h2
  rw [IntWalk.i64_in _ (by omega), IntWalk.i64_in _ (by omega)]
  rfl
/-- Within a round: so many runs have come. -/
structure Jn (w W : World) (p bn N c : Nat) : Prop where
  nb : W.heap[bn]? = some (.cells #[.int .i64 (c : Int)] 3 (0, 0))
  set : ∃ sv R', SetAt W p p sv R' ∧ R'.length ≤ N + c
  kp : Kp w W (fun k => (w.heap.size ≤ k ∨ k = bn) ∨ k = p)
/-- The state between two turns. -/
structure Rn (d : Nat) (wN W : World) (p bt t : Nat) : Prop where
  box : W.heap[bt]? = some (.cells #[.int .i64 (t : Int)] 3 (0, 0))
  lo : d ≤ bt
  set : ∃ sv R', SetAt W p p sv R' ∧ R'.length ≤ 120 + 65536 * t
  kp : Kp wN W (fun k => wN.heap.size ≤ k ∨ k = p)
/-- The deferred blocks that the turns laid. -/
def Dn (wN W : World) (ds : List Deferred) (t : Nat) : Prop :=
  (t = 0 ∧ ds = []) ∨ (t = 1 ∧ ∃ D, ds = [{ target := .collected D, args := #[] }] ∧ W.heap[D]? = some (.deferred (some [])) ∧ wN.heap.size ≤ D) ∨
  (t = 2 ∧ ∃ D D', ds = [{ target := .collected D', args := #[] }, { target := .collected D, args := #[] }] ∧ D < D' ∧ W.heap[D]? = some (.deferred (some [])) ∧ W.heap[D']? = some (.deferred (some [])) ∧ wN.heap.size ≤ D)
theorem loop_two {P : Program} {Q : Exit → Act → World → Prop} {a : Act} {w : World} {c : Code} (R : Nat → Act → World → Prop) (h0 : R 0 a w)
    (h : ∀ t a w, t ≤ 2 → R t a w → ∀ K : Act → World → Prop, (∀ a' w', t < 2 → R (t + 1) a' w' → K a' w') → c.wp P (Exit.then K Q) a w) : (Code.loop c).wp P Q a w :=
  wp_loop_rounds 3 (h 0 a w (by omega) h0 _ fun a1 w1 _ h1 => h 1 a1 w1 (by omega) h1 _ fun a2 w2 _ h2 => h 2 a2 w2 (by omega) h2 _ fun _ _ h3 _ => by omega)
theorem wp_cutD {P : Program} {s : Code} {K : Act → World → Prop} {Q' : Exit → Act → World → Prop} {T : Array Value} {ds : List Deferred} {w : World} (R : List Deferred → World → Prop)
    (rest : ∀ ds' w', R ds' w' → K { tmps := T, defers := ds' } w')
    (first : ∀ K' : Act → World → Prop, (∀ ds' w', R ds' w' → K' { tmps := T, defers := ds' } w') → s.wp P (Exit.then K' Q') { tmps := T, defers := ds } w) : s.wp P (Exit.then K Q') { tmps := T, defers := ds } w := first K rest
section
variable {wN W w5 W' Wx : World} {d p bt bn N c t D : Nat} {ds : List Deferred}
theorem jn_own {row : Option Nat} (h : Jn w5 W p bn N c) (hbn : bn < w5.heap.size) (hp : p < w5.heap.size) (hg : W.grownBy W' row) (hr : ∀ r, row = some r → w5.heap.size ≤ r ∧ ∃ o : Obj, W.heap[r]? = some o ∧ o.isCells = false) : Jn w5 W' p bn N c := by
  have K := kp_row hg
  obtain ⟨sv, R', hs, hl⟩ := h.set
  refine ⟨blk_kp h.nb K (fun e => by have := (hr _ e).1; omega), ⟨sv, R', hs.kept K (fun e => by have := (hr _ e).1; omega) (fun b hb e => ?_), hl⟩, h.kp.then_ K (fun k hk => .inr (hr k hk).1)⟩
  obtain ⟨_, o, ho, hc⟩ := hr b e
  rcases hs.own.2 with ⟨hv, _⟩ | ⟨g, cap, cur, hv, _, hg2, _⟩
  · rw [hv] at hb; cases hb
  · rw [hv] at hb
    cases hb
    have hg3 : W.heap[g]? = some (.cells cur 29 (0, 0)) := hg2
    rw [hg3] at ho
    cases ho
    cases hc
theorem turn_next (hkp : Kp wN w5 (fun q => wN.heap.size ≤ q ∨ q = p)) (hJ : Jn w5 W' p bn (120 + 65536 * t) c) (hNW : wN.heap.size ≤ bn) (hW5 : bn < w5.heap.size) (hp : p < wN.heap.size) (hdN : d ≤ wN.heap.size) (hc : c ≤ 65536) (h1 : Kp W' Wx (fun q => q = W'.heap.size)) (h2 : Wx.heap[W'.heap.size]? = some (.cells #[.int .i64 ((t : Int) + 1)] 3 (0, 0))) : Rn d wN Wx p W'.heap.size (t + 1) := by
  have hs := hJ.kp.size
  have h5 := hkp.size
  obtain ⟨sv, R', h3, h4⟩ := hJ.set
  refine ⟨h2, by omega, ⟨sv, R', h3.kept h1 (fun e => by have := blk_lt h3.head; omega) (fun b hb e => by have := (row_blk h3.own hb).2; omega), by omega⟩, (hkp.then_ hJ.kp (fun q hq => ?_)).then_ h1 (fun q hq => .inr (by omega))⟩
  rcases hq with (h | h) | h
  · exact .inr (by omega)
  · exact .inr (by omega)
  · exact .inl (.inr h)
theorem dn_next (hD : Dn wN W ds t) (k5 : Kp W w5 (fun _ => False)) (hbnc : w5.heap[bn]? ≠ some (.deferred (some []))) (hpc : w5.heap[p]? ≠ some (.deferred (some []))) (hJ : Jn w5 W' p bn N c) (hDD : W'.heap[D]? = some (.deferred (some []))) (hNW : wN.heap.size ≤ bn) (hW5 : bn < w5.heap.size) (hD5 : w5.heap.size ≤ D) (ht : t < 2) (h1 : Kp W' Wx (fun q => q = W'.heap.size)) :
    Dn wN Wx ({ target := .collected D, args := #[] } :: ds) (t + 1) := by
  have hlt : D < W'.heap.size := (Array.getElem?_eq_some_iff.1 hDD).1
  have hx : Wx.heap[D]? = some (.deferred (some [])) := (h1.keep D hlt (by omega)).trans hDD
  rcases hD with ⟨rfl, rfl⟩ | ⟨rfl, D0, rfl, h2, h3⟩ | ⟨rfl, _⟩
  · exact .inr (.inl ⟨rfl, D, rfl, hx, by omega⟩)
  · have hl0 : D0 < W.heap.size := (Array.getElem?_eq_some_iff.1 h2).1
    have h4 := (k5.keep D0 hl0 (fun h => h)).trans h2
    have hl5 : D0 < w5.heap.size := (Array.getElem?_eq_some_iff.1 h4).1
    have h5 := (hJ.kp.keep D0 hl5 (fun h => by
      rcases h with (h | rfl) | rfl
      · omega
      · exact hbnc h4
      · exact hpc h4)).trans h4
    have h6 := (h1.keep D0 (Array.getElem?_eq_some_iff.1 h5).1 (by have := (Array.getElem?_eq_some_iff.1 h5).1; omega)).trans h5
    exact .inr (.inr ⟨rfl, D0, D, rfl, by omega, h6, hx, h3⟩)
  · omega
/-- A round: the count goes up, and the set is joined with all numbers. -/
theorem jn_step {v0 v1 : World} {b : Bool} {sv : Value} {R' R2 : List Run} (hJ : Jn w5 W p bn N c) (hset : SetAt W p p sv R') (hl : R'.length ≤ N + c) (hbp : bn ≠ p) (hbn : bn < w5.heap.size) (hp : p < w5.heap.size) (h0 : Kp W v0 (fun k => k = bn)) (hnb : v0.heap[bn]? = some (.cells #[.int .i64 ((c : Int) + 1)] 3 (0, 0))) (hL : Su8.Left v0 v1 p p sv R' R2 b) :
    Jn w5 v1 p bn N (c + 1) ∧ Kp W v1 (fun k => (w5.heap.size ≤ k ∨ k = bn) ∨ k = p) ∧ KeepsFrom w5.heap.size W v1 := by
  obtain ⟨sv2, h2, _⟩ := hL.set
  have hlen := hL.len
  have K1 : Kp W v1 (fun k => (w5.heap.size ≤ k ∨ k = bn) ∨ k = p) := (h0.mono (fun k hk => .inl (.inr hk))).then_ hL.kept (fun k hk => .inl (.inr hk))
  have K2 : Kp W v1 (fun k => k = bn ∨ k = p) := (h0.mono (fun k hk => .inl hk)).then_ hL.kept (fun k hk => .inl (.inr hk))
  exact ⟨⟨blk_kp hnb hL.kept (fun h => hbp h), ⟨sv2, R2, h2, by omega⟩, hJ.kp.then_ K1 (fun k hk => .inl hk)⟩, K1, kf_of K2 (fun k hk => by rcases hk with rfl | rfl <;> assumption)⟩
end
set_option maxHeartbeats 8000000 in
set_option maxRecDepth 100000 in
theorem own_calls (A : Option Addr) (len cap : Nat) (T : Nat → Rec) (B : Option Addr) (len2 cap2 : Nat) (T2 : Nat → Rec) (stop : Int) (w : World) (hs : Script w A len T) (hs2 : Script w B len2 T2) (hl : len ≤ 9223372036854775807) (hl2 : len2 ≤ 9223372036854775807) :
    Calls Try.prog 4 #[.slice A len cap, .slice B len2 cap2, .int .i64 stop] w fun e w' => e = .returned (.bool true) ∧ Kp w w' (fun _ => False) := by
  have HS := Aside0.mk hs
  have HS2 := Aside0.mk hs2
  have HL := Aside0.mk hl
  clear hs hs2 hl
  refine (callsIn_wide (n := 9)).1 ?_
  refine callsIn_of_wp_marks Try.func4 rfl trivial ?_ rfl
  simp only [Try.ntmps4, List.size_toArray, List.length_cons, List.length_nil, Nat.reduceAdd, Nat.reduceSub, Array.replicate_succ, Array.replicate_zero, List.push_toArray, List.append_toArray, List.nil_append, List.cons_append]
  refine wpIn_wide.2 ?_
  go_upto_region 1 with (fail)
  obtain ⟨wa, hwa⟩ : ∃ wa, (w.alloc (.cells #[.int .i64 stop] 3)).alloc (.cells #[.bool false] 4) = wa := ⟨_, rfl⟩
  have ka : Kp w wa (fun _ => False) := by rw [← hwa]; exact ((Kp.refl w _).alloc _).alloc _
  have b4 : wa.heap[w.heap.size + 1]? = some (.cells #[.bool false] 4 (0, 0)) := by
    rw [← hwa]
    have := heap_alloc_new (w.alloc (.cells #[.int .i64 stop] 3)) (.cells #[.bool false] 4)
    rwa [World.size_alloc] at this
  have b3 : wa.heap[w.heap.size]? = some (.cells #[.int .i64 stop] 3 (0, 0)) := by
    rw [← hwa]
    exact blk_kp (heap_alloc_new w (.cells #[.int .i64 stop] 3)) ((Kp.refl _ (fun _ => False)).alloc _) (fun h => h)
  rw [hwa]
  clear hwa
  have hws : w.heap.size + 1 < wa.heap.size := blk_lt b4
  have B3 := Aside0.mk b3
  have B4 := Aside0.mk b4
  have KA := Aside0.mk ka
  clear b3 b4 ka
  go_wp2_with fail
  refine (filled_calls A len cap T wa (HS.out.kept KA.out) HL.out).mono ?_
  rintro e w1 ⟨sv, R, rfl, h1, hR, k1⟩
  have H1 := Aside0.mk h1
  have K1 := Aside0.mk k1
  clear h1 k1 HS HL
  go_upto_region 2 with (fail)
  obtain ⟨w3, hw3⟩ : ∃ w3, w1.alloc (.cells #[.pointer (some ⟨wa.heap.size, 0, none⟩)] 23) = w3 := ⟨_, rfl⟩
  have k3 : Kp w1 w3 (fun _ => False) := by rw [← hw3]; exact (Kp.refl _ _).alloc _
  have hb7 := heap_alloc_new w1 (.cells #[.pointer (some ⟨wa.heap.size, 0, none⟩)] 23)
  rw [hw3] at hb7 ⊢
  have h17 : wa.heap.size < w1.heap.size := blk_lt H1.out.head
  have HS3 := Aside0.mk (H1.out.stay k3)
  have K3 := Aside0.mk (K1.out.then_ k3 (fun _ h => h.elim))
  have HB7 := Aside0.mk hb7
  clear hw3 H1 K1 k3 hb7
  generalize w1.heap.size = b7 at *
  obtain ⟨p, hp⟩ : ∃ p, wa.heap.size = p := ⟨_, rfl⟩
  rw [hp] at HS3 HB7 h17 ⊢
  have HP := Aside0.mk hp
  clear hp
  go_wp2_with fail
  refine (Aw.awake_calls w3).mono ?_
  rintro e w4 ⟨rfl, k4⟩
  have HS4 := Aside0.mk (HS3.out.stay k4)
  have K4 := Aside0.mk (K3.out.then_ k4 (fun _ h => h.elim))
  have HB74 := Aside0.mk (blk_kp HB7.out k4 (fun h => h))
  have c7 : w4.cell? ⟨b7, 0, none⟩ = some (.pointer (some ⟨p, 0, none⟩)) := (blk_cell HB74.out 0).trans rfl
  have h74 : b7 < w4.heap.size := blk_lt HB74.out
  clear HS3 K3 HB7 k4
  go_upto_region 4 with (fail)
  go_cut [8, 9, 10] from 20 (fun s8 s9 s10 wx => ∃ (q : Nat) (sq : Value) (Bs : Nat) (cv : Value) (b10 : Nat) (Aw : Option Addr) (nw : Nat), s8 = .pointer (some ⟨q, 0, none⟩) ∧ s9 = .func (.func 68) #[] #[.pointer (some ⟨Bs, 0, none⟩)] ∧ s10 = .pointer (some ⟨b10, 0, none⟩) ∧ ClQ w4 wx q sq R ∧ AlQ w4 wx Bs cv R ∧ WsQ w4 wx (.slice Aw R.length nw) R ∧ BnQ w4 wx b10 (.slice Aw R.length nw) ∧ Kp w4 wx (fun _ => False))
  case first =>
    refine wp_region_noPanic ?_
    refine start_ (n := 10) (S := fun w' => w'.cell? ⟨b7, 0, none⟩ = some (.pointer (some ⟨p, 0, none⟩))) (ds := [9]) #[false, false, false, false, false, false, false, false, false, false] (by kernel_rfl) rfl rfl c7 (fun hHeld => ?_)
    refine take_ (i := 0) (N := (some 28)) (v := ?_) (a' := ?_) #[true, false, false, false, false, false, false, false, false, false] rfl rfl (by kernel_rfl) (fun _ _ _ h => h) (Or.inl ⟨by rfl, ?_⟩) hHeld ?_ ?_
    rotate_left
    · intro w' s0
      go_simp
      with_reducible rfl
    rotate_left
    · simp only [Act.put, List.setIfInBounds_toArray, List.set_cons_zero, List.set_cons_succ]
      rfl
    refine take_ (i := 2) (N := (some 30)) (v := ?_) (a' := ?_) #[true, false, true, false, false, false, false, false, false, false] rfl rfl (by kernel_rfl) (fun _ _ _ h => h) (Or.inl ⟨by rfl, ?_⟩) hHeld ?_ ?_
    rotate_left
    · intro w' s0
      go_simp
      with_reducible rfl
    rotate_left
    · simp only [Act.put, List.setIfInBounds_toArray, List.set_cons_zero, List.set_cons_succ]
      rfl
    refine take_ (i := 4) (N := (some 32)) (v := ?_) (a' := ?_) #[true, false, true, false, true, false, false, false, false, false] rfl rfl (by kernel_rfl) (fun _ _ _ h => h) (Or.inl ⟨by rfl, ?_⟩) hHeld ?_ ?_
    rotate_left
    · intro w' s0
      go_simp
      with_reducible rfl
    rotate_left
    · simp only [Act.put, List.setIfInBounds_toArray, List.set_cons_zero, List.set_cons_succ]
      rfl
    have kk : Kp w4 w4.drew (fun _ => False) := (Kp.refl _ _).drew
    have kks := kk.size
    refine two_ (i := 1) (j := 6) (Ni := (some 29)) (Nj := (some 10)) #[true, true, true, false, true, false, false, false, false, false] #[true, false, true, false, true, false, true, false, false, false] rfl rfl rfl rfl (by kernel_rfl) (by decide) (by decide) (fun K hK => ?_) (fun K hK => ?_)
    · skip
      refine goes_ Try.func16 (by kernel_rfl) rfl #[.pointer (some ⟨p, 0, none⟩)] (by rfl) rfl rfl (by (try simp only [List.map_toArray, List.map_cons, List.map_nil]); first | done | rfl) ?_
      refine (clone_calls (HS4.out.stay kk) (by omega)).mono ?_
      rintro e W2 ⟨q, sq, rfl, hset, K2, _⟩
      have kk := kk.then_ K2 (fun _ h => h.elim)
      clear K2
      have hcl : ClQ w4 W2 q sq R := ⟨_, kks, hset⟩
      clear hset
      refine ⟨_, rfl, ?_⟩
      have kks := kk.size
      refine hK.out _ _ (cell_kp c7 kk (fun h => h)) (fun hHeld => ?_)
      clear hK K
      refine norm_ (a' := ?_) ?_ ?_
      rotate_left
      · show Act.put _ (some 29) _ = _
        simp only [Act.put, List.setIfInBounds_toArray, List.set_cons_zero, List.set_cons_succ]
        rfl
      as_aux_lemma =>
        refine two_ (i := 3) (j := 6) (Ni := (some 31)) (Nj := (some 10)) #[true, true, true, true, true, false, false, false, false, false] #[true, true, true, false, true, false, true, false, false, false] rfl rfl rfl rfl (by kernel_rfl) (by decide) (by decide) (fun K hK => ?_) (fun K hK => ?_)
        · skip
          refine goes_ Try.func17 (by kernel_rfl) rfl #[.pointer (some ⟨p, 0, none⟩)] (by rfl) rfl rfl (by (try simp only [List.map_toArray, List.map_cons, List.map_nil]); first | done | rfl) ?_
          refine (all_calls (HS4.out.stay kk) (by omega)).mono ?_
          rintro e W2 ⟨Bs, cv, rfl, hBs, hle, hown, K2⟩
          have hcl := hcl.stay K2
          have kk := kk.then_ K2 (fun _ h => h.elim)
          clear K2
          have hal : AlQ w4 W2 Bs cv R := ⟨hBs, Nat.le_trans kks hle, _, kks, hown⟩
          clear hBs hle hown
          refine ⟨_, rfl, ?_⟩
          have kks := kk.size
          refine hK.out _ _ (cell_kp c7 kk (fun h => h)) (fun hHeld => ?_)
          clear hK K
          refine norm_ (a' := ?_) ?_ ?_
          rotate_left
          · show Act.put _ (some 31) _ = _
            simp only [Act.put, List.setIfInBounds_toArray, List.set_cons_zero, List.set_cons_succ]
            rfl
          as_aux_lemma =>
            refine two_ (i := 5) (j := 6) (Ni := (some 33)) (Nj := (some 10)) #[true, true, true, true, true, true, false, false, false, false] #[true, true, true, true, true, false, true, false, false, false] rfl rfl rfl rfl (by kernel_rfl) (by decide) (by decide) (fun K hK => ?_) (fun K hK => ?_)
            · skip
              refine goes_ Try.func18 (by kernel_rfl) rfl #[.pointer (some ⟨p, 0, none⟩)] (by rfl) rfl rfl (by (try simp only [List.map_toArray, List.map_cons, List.map_nil]); first | done | rfl) ?_
              refine (told_calls (HS4.out.stay kk) (by omega)).mono ?_
              rintro e W2 ⟨v, rfl, hown, K2⟩
              have hcl := hcl.stay K2
              have hal := hal.stay K2
              have kk := kk.then_ K2 (fun _ h => h.elim)
              clear K2
              obtain ⟨Aw, nw, rfl, _⟩ := Su8.own_slice hown
              have hws_ : WsQ w4 W2 (.slice Aw R.length nw) R := ⟨_, kks, hown⟩
              clear hown
              refine ⟨_, rfl, ?_⟩
              have kks := kk.size
              refine hK.out _ _ (cell_kp c7 kk (fun h => h)) (fun hHeld => ?_)
              clear hK K
              refine norm_ (a' := ?_) ?_ ?_
              rotate_left
              · show Act.put _ (some 33) _ = _
                simp only [Act.put, List.setIfInBounds_toArray, List.set_cons_zero, List.set_cons_succ]
                rfl
              as_aux_lemma =>
                refine one_ (i := 6) (N := (some 10)) #[true, true, true, true, true, true, true, false, false, false] rfl rfl (by kernel_rfl) (by decide) (fun K hK => ?_)
                refine box_step (by rfl) rfl (cs := #[.slice none 0 0]) (t := 39) (by first | (go_simp; done) | (go_simp; rfl)) ?_
                intro b10 hg W2 hk1 hbl
                have K2 := Kp.of_below hbl (fun _ => False)
                have hcl := hcl.stay K2
                have hal := hal.stay K2
                have hws_ := hws_.stay K2
                have kk := kk.then_ K2 (fun _ h => h.elim)
                clear K2
                have hbn : BnQ w4 W2 b10 (.slice none 0 0) := ⟨hk1, by rw [hg]; exact kks⟩
                clear hk1 hbl hg
                have kks := kk.size
                refine hK.out _ _ (cell_kp c7 kk (fun h => h)) (fun hHeld => ?_)
                clear hK K
                refine norm_ (a' := ?_) ?_ ?_
                rotate_left
                · show Act.put _ (some 10) _ = _
                  simp only [Act.put, List.setIfInBounds_toArray, List.set_cons_zero, List.set_cons_succ]
                  rfl
                as_aux_lemma =>
                  refine pure_ (i := 7) (N := (some 8)) (v := ?_) (a' := ?_) #[true, true, true, true, true, true, true, true, false, false] rfl rfl (by kernel_rfl) (fun _ _ _ h => h) (Or.inl ⟨by rfl, ?_⟩) ?_ ?_
                  rotate_left
                  · intro w'
                    go_simp
                    with_reducible rfl
                  rotate_left
                  · simp only [Act.put, List.setIfInBounds_toArray, List.set_cons_zero, List.set_cons_succ]
                    rfl
                  refine pure_ (i := 8) (N := (some 9)) (v := ?_) (a' := ?_) #[true, true, true, true, true, true, true, true, true, false] rfl rfl (by kernel_rfl) (fun _ _ _ h => h) (Or.inl ⟨by rfl, ?_⟩) ?_ ?_
                  rotate_left
                  · intro w'
                    go_simp
                    with_reducible rfl
                  rotate_left
                  · simp only [Act.put, List.setIfInBounds_toArray, List.set_cons_zero, List.set_cons_succ]
                    rfl
                  have hz : W2.frozen? ⟨b10, 0, none⟩ = false := blk_frozen hbn.1 0
                  have hc9 : W2.cell? ⟨b10, 0, none⟩ = some (.slice none 0 0) := (blk_cell hbn.1 0).trans rfl
                  refine last_ (i := 9) (N := none) #[true, true, true, true, true, true, true, true, true, true] rfl rfl (by kernel_rfl) (by decide) (fun K hK => ?_)
                  refine skip_ (w1 := ?_) (by rfl) rfl ?_ ?_
                  rotate_left
                  · go_simp
                    rfl
                  refine hK.out _ _ ?_
                  clear hK K
                  refine done_ (by kernel_rfl) ?_
                  refine NoPanic.normal ?_
                  go_wp2_with fail
                  go_meet
                  case rel => exact ⟨q, sq, Bs, cv, b10, Aw, nw, rfl, rfl, rfl, hcl.put hbn, hal.put hbn, hws_.put hbn, hbn.put _, kk.then_ (kp_put (g := b10) _) (fun q hq => .inr (by rw [hq]; exact hbn.2))⟩
            · skip
              refine box_step (by rfl) rfl (cs := #[.slice none 0 0]) (t := 39) (by first | (go_simp; done) | (go_simp; rfl)) ?_
              intro b10 hg W2 hk1 hbl
              have K2 := Kp.of_below hbl (fun _ => False)
              have hcl := hcl.stay K2
              have hal := hal.stay K2
              have kk := kk.then_ K2 (fun _ h => h.elim)
              clear K2
              have hbn : BnQ w4 W2 b10 (.slice none 0 0) := ⟨hk1, by rw [hg]; exact kks⟩
              clear hk1 hbl hg
              have kks := kk.size
              refine hK.out _ _ (cell_kp c7 kk (fun h => h)) (fun hHeld => ?_)
              clear hK K
              refine norm_ (a' := ?_) ?_ ?_
              rotate_left
              · show Act.put _ (some 10) _ = _
                simp only [Act.put, List.setIfInBounds_toArray, List.set_cons_zero, List.set_cons_succ]
                rfl
              as_aux_lemma =>
                refine one_ (i := 5) (N := (some 33)) #[true, true, true, true, true, true, true, false, false, false] rfl rfl (by kernel_rfl) (by decide) (fun K hK => ?_)
                refine goes_ Try.func18 (by kernel_rfl) rfl #[.pointer (some ⟨p, 0, none⟩)] (by rfl) rfl rfl (by (try simp only [List.map_toArray, List.map_cons, List.map_nil]); first | done | rfl) ?_
                refine (told_calls (HS4.out.stay kk) (by omega)).mono ?_
                rintro e W2 ⟨v, rfl, hown, K2⟩
                have hcl := hcl.stay K2
                have hal := hal.stay K2
                have hbn := hbn.stay K2
                have kk := kk.then_ K2 (fun _ h => h.elim)
                clear K2
                obtain ⟨Aw, nw, rfl, _⟩ := Su8.own_slice hown
                have hws_ : WsQ w4 W2 (.slice Aw R.length nw) R := ⟨_, kks, hown⟩
                clear hown
                refine ⟨_, rfl, ?_⟩
                have kks := kk.size
                refine hK.out _ _ (cell_kp c7 kk (fun h => h)) (fun hHeld => ?_)
                clear hK K
                refine norm_ (a' := ?_) ?_ ?_
                rotate_left
                · show Act.put _ (some 33) _ = _
                  simp only [Act.put, List.setIfInBounds_toArray, List.set_cons_zero, List.set_cons_succ]
                  rfl
                as_aux_lemma =>
                  refine pure_ (i := 7) (N := (some 8)) (v := ?_) (a' := ?_) #[true, true, true, true, true, true, true, true, false, false] rfl rfl (by kernel_rfl) (fun _ _ _ h => h) (Or.inl ⟨by rfl, ?_⟩) ?_ ?_
                  rotate_left
                  · intro w'
                    go_simp
                    with_reducible rfl
                  rotate_left
                  · simp only [Act.put, List.setIfInBounds_toArray, List.set_cons_zero, List.set_cons_succ]
                    rfl
                  refine pure_ (i := 8) (N := (some 9)) (v := ?_) (a' := ?_) #[true, true, true, true, true, true, true, true, true, false] rfl rfl (by kernel_rfl) (fun _ _ _ h => h) (Or.inl ⟨by rfl, ?_⟩) ?_ ?_
                  rotate_left
                  · intro w'
                    go_simp
                    with_reducible rfl
                  rotate_left
                  · simp only [Act.put, List.setIfInBounds_toArray, List.set_cons_zero, List.set_cons_succ]
                    rfl
                  have hz : W2.frozen? ⟨b10, 0, none⟩ = false := blk_frozen hbn.1 0
                  have hc9 : W2.cell? ⟨b10, 0, none⟩ = some (.slice none 0 0) := (blk_cell hbn.1 0).trans rfl
                  refine last_ (i := 9) (N := none) #[true, true, true, true, true, true, true, true, true, true] rfl rfl (by kernel_rfl) (by decide) (fun K hK => ?_)
                  refine skip_ (w1 := ?_) (by rfl) rfl ?_ ?_
                  rotate_left
                  · go_simp
                    rfl
                  refine hK.out _ _ ?_
                  clear hK K
                  refine done_ (by kernel_rfl) ?_
                  refine NoPanic.normal ?_
                  go_wp2_with fail
                  go_meet
                  case rel => exact ⟨q, sq, Bs, cv, b10, Aw, nw, rfl, rfl, rfl, hcl.put hbn, hal.put hbn, hws_.put hbn, hbn.put _, kk.then_ (kp_put (g := b10) _) (fun q hq => .inr (by rw [hq]; exact hbn.2))⟩
        · skip
          refine box_step (by rfl) rfl (cs := #[.slice none 0 0]) (t := 39) (by first | (go_simp; done) | (go_simp; rfl)) ?_
          intro b10 hg W2 hk1 hbl
          have K2 := Kp.of_below hbl (fun _ => False)
          have hcl := hcl.stay K2
          have kk := kk.then_ K2 (fun _ h => h.elim)
          clear K2
          have hbn : BnQ w4 W2 b10 (.slice none 0 0) := ⟨hk1, by rw [hg]; exact kks⟩
          clear hk1 hbl hg
          have kks := kk.size
          refine hK.out _ _ (cell_kp c7 kk (fun h => h)) (fun hHeld => ?_)
          clear hK K
          refine norm_ (a' := ?_) ?_ ?_
          rotate_left
          · show Act.put _ (some 10) _ = _
            simp only [Act.put, List.setIfInBounds_toArray, List.set_cons_zero, List.set_cons_succ]
            rfl
          as_aux_lemma =>
            refine one_ (i := 3) (N := (some 31)) #[true, true, true, true, true, false, true, false, false, false] rfl rfl (by kernel_rfl) (by decide) (fun K hK => ?_)
            refine goes_ Try.func17 (by kernel_rfl) rfl #[.pointer (some ⟨p, 0, none⟩)] (by rfl) rfl rfl (by (try simp only [List.map_toArray, List.map_cons, List.map_nil]); first | done | rfl) ?_
            refine (all_calls (HS4.out.stay kk) (by omega)).mono ?_
            rintro e W2 ⟨Bs, cv, rfl, hBs, hle, hown, K2⟩
            have hcl := hcl.stay K2
            have hbn := hbn.stay K2
            have kk := kk.then_ K2 (fun _ h => h.elim)
            clear K2
            have hal : AlQ w4 W2 Bs cv R := ⟨hBs, Nat.le_trans kks hle, _, kks, hown⟩
            clear hBs hle hown
            refine ⟨_, rfl, ?_⟩
            have kks := kk.size
            refine hK.out _ _ (cell_kp c7 kk (fun h => h)) (fun hHeld => ?_)
            clear hK K
            refine norm_ (a' := ?_) ?_ ?_
            rotate_left
            · show Act.put _ (some 31) _ = _
              simp only [Act.put, List.setIfInBounds_toArray, List.set_cons_zero, List.set_cons_succ]
              rfl
            as_aux_lemma =>
              refine one_ (i := 5) (N := (some 33)) #[true, true, true, true, true, true, true, false, false, false] rfl rfl (by kernel_rfl) (by decide) (fun K hK => ?_)
              refine goes_ Try.func18 (by kernel_rfl) rfl #[.pointer (some ⟨p, 0, none⟩)] (by rfl) rfl rfl (by (try simp only [List.map_toArray, List.map_cons, List.map_nil]); first | done | rfl) ?_
              refine (told_calls (HS4.out.stay kk) (by omega)).mono ?_
              rintro e W2 ⟨v, rfl, hown, K2⟩
              have hcl := hcl.stay K2
              have hal := hal.stay K2
              have hbn := hbn.stay K2
              have kk := kk.then_ K2 (fun _ h => h.elim)
              clear K2
              obtain ⟨Aw, nw, rfl, _⟩ := Su8.own_slice hown
              have hws_ : WsQ w4 W2 (.slice Aw R.length nw) R := ⟨_, kks, hown⟩
              clear hown
              refine ⟨_, rfl, ?_⟩
              have kks := kk.size
              refine hK.out _ _ (cell_kp c7 kk (fun h => h)) (fun hHeld => ?_)
              clear hK K
              refine norm_ (a' := ?_) ?_ ?_
              rotate_left
              · show Act.put _ (some 33) _ = _
                simp only [Act.put, List.setIfInBounds_toArray, List.set_cons_zero, List.set_cons_succ]
                rfl
              as_aux_lemma =>
                refine pure_ (i := 7) (N := (some 8)) (v := ?_) (a' := ?_) #[true, true, true, true, true, true, true, true, false, false] rfl rfl (by kernel_rfl) (fun _ _ _ h => h) (Or.inl ⟨by rfl, ?_⟩) ?_ ?_
                rotate_left
                · intro w'
                  go_simp
                  with_reducible rfl
                rotate_left
                · simp only [Act.put, List.setIfInBounds_toArray, List.set_cons_zero, List.set_cons_succ]
                  rfl
                refine pure_ (i := 8) (N := (some 9)) (v := ?_) (a' := ?_) #[true, true, true, true, true, true, true, true, true, false] rfl rfl (by kernel_rfl) (fun _ _ _ h => h) (Or.inl ⟨by rfl, ?_⟩) ?_ ?_
                rotate_left
                · intro w'
                  go_simp
                  with_reducible rfl
                rotate_left
                · simp only [Act.put, List.setIfInBounds_toArray, List.set_cons_zero, List.set_cons_succ]
                  rfl
                have hz : W2.frozen? ⟨b10, 0, none⟩ = false := blk_frozen hbn.1 0
                have hc9 : W2.cell? ⟨b10, 0, none⟩ = some (.slice none 0 0) := (blk_cell hbn.1 0).trans rfl
                refine last_ (i := 9) (N := none) #[true, true, true, true, true, true, true, true, true, true] rfl rfl (by kernel_rfl) (by decide) (fun K hK => ?_)
                refine skip_ (w1 := ?_) (by rfl) rfl ?_ ?_
                rotate_left
                · go_simp
                  rfl
                refine hK.out _ _ ?_
                clear hK K
                refine done_ (by kernel_rfl) ?_
                refine NoPanic.normal ?_
                go_wp2_with fail
                go_meet
                case rel => exact ⟨q, sq, Bs, cv, b10, Aw, nw, rfl, rfl, rfl, hcl.put hbn, hal.put hbn, hws_.put hbn, hbn.put _, kk.then_ (kp_put (g := b10) _) (fun q hq => .inr (by rw [hq]; exact hbn.2))⟩
    · skip
      refine box_step (by rfl) rfl (cs := #[.slice none 0 0]) (t := 39) (by first | (go_simp; done) | (go_simp; rfl)) ?_
      intro b10 hg W2 hk1 hbl
      have K2 := Kp.of_below hbl (fun _ => False)
      have kk := kk.then_ K2 (fun _ h => h.elim)
      clear K2
      have hbn : BnQ w4 W2 b10 (.slice none 0 0) := ⟨hk1, by rw [hg]; exact kks⟩
      clear hk1 hbl hg
      have kks := kk.size
      refine hK.out _ _ (cell_kp c7 kk (fun h => h)) (fun hHeld => ?_)
      clear hK K
      refine norm_ (a' := ?_) ?_ ?_
      rotate_left
      · show Act.put _ (some 10) _ = _
        simp only [Act.put, List.setIfInBounds_toArray, List.set_cons_zero, List.set_cons_succ]
        rfl
      as_aux_lemma =>
        refine one_ (i := 1) (N := (some 29)) #[true, true, true, false, true, false, true, false, false, false] rfl rfl (by kernel_rfl) (by decide) (fun K hK => ?_)
        refine goes_ Try.func16 (by kernel_rfl) rfl #[.pointer (some ⟨p, 0, none⟩)] (by rfl) rfl rfl (by (try simp only [List.map_toArray, List.map_cons, List.map_nil]); first | done | rfl) ?_
        refine (clone_calls (HS4.out.stay kk) (by omega)).mono ?_
        rintro e W2 ⟨q, sq, rfl, hset, K2, _⟩
        have hbn := hbn.stay K2
        have kk := kk.then_ K2 (fun _ h => h.elim)
        clear K2
        have hcl : ClQ w4 W2 q sq R := ⟨_, kks, hset⟩
        clear hset
        refine ⟨_, rfl, ?_⟩
        have kks := kk.size
        refine hK.out _ _ (cell_kp c7 kk (fun h => h)) (fun hHeld => ?_)
        clear hK K
        refine norm_ (a' := ?_) ?_ ?_
        rotate_left
        · show Act.put _ (some 29) _ = _
          simp only [Act.put, List.setIfInBounds_toArray, List.set_cons_zero, List.set_cons_succ]
          rfl
        as_aux_lemma =>
          refine one_ (i := 3) (N := (some 31)) #[true, true, true, true, true, false, true, false, false, false] rfl rfl (by kernel_rfl) (by decide) (fun K hK => ?_)
          refine goes_ Try.func17 (by kernel_rfl) rfl #[.pointer (some ⟨p, 0, none⟩)] (by rfl) rfl rfl (by (try simp only [List.map_toArray, List.map_cons, List.map_nil]); first | done | rfl) ?_
          refine (all_calls (HS4.out.stay kk) (by omega)).mono ?_
          rintro e W2 ⟨Bs, cv, rfl, hBs, hle, hown, K2⟩
          have hcl := hcl.stay K2
          have hbn := hbn.stay K2
          have kk := kk.then_ K2 (fun _ h => h.elim)
          clear K2
          have hal : AlQ w4 W2 Bs cv R := ⟨hBs, Nat.le_trans kks hle, _, kks, hown⟩
          clear hBs hle hown
          refine ⟨_, rfl, ?_⟩
          have kks := kk.size
          refine hK.out _ _ (cell_kp c7 kk (fun h => h)) (fun hHeld => ?_)
          clear hK K
          refine norm_ (a' := ?_) ?_ ?_
          rotate_left
          · show Act.put _ (some 31) _ = _
            simp only [Act.put, List.setIfInBounds_toArray, List.set_cons_zero, List.set_cons_succ]
            rfl
          as_aux_lemma =>
            refine one_ (i := 5) (N := (some 33)) #[true, true, true, true, true, true, true, false, false, false] rfl rfl (by kernel_rfl) (by decide) (fun K hK => ?_)
            refine goes_ Try.func18 (by kernel_rfl) rfl #[.pointer (some ⟨p, 0, none⟩)] (by rfl) rfl rfl (by (try simp only [List.map_toArray, List.map_cons, List.map_nil]); first | done | rfl) ?_
            refine (told_calls (HS4.out.stay kk) (by omega)).mono ?_
            rintro e W2 ⟨v, rfl, hown, K2⟩
            have hcl := hcl.stay K2
            have hal := hal.stay K2
            have hbn := hbn.stay K2
            have kk := kk.then_ K2 (fun _ h => h.elim)
            clear K2
            obtain ⟨Aw, nw, rfl, _⟩ := Su8.own_slice hown
            have hws_ : WsQ w4 W2 (.slice Aw R.length nw) R := ⟨_, kks, hown⟩
            clear hown
            refine ⟨_, rfl, ?_⟩
            have kks := kk.size
            refine hK.out _ _ (cell_kp c7 kk (fun h => h)) (fun hHeld => ?_)
            clear hK K
            refine norm_ (a' := ?_) ?_ ?_
            rotate_left
            · show Act.put _ (some 33) _ = _
              simp only [Act.put, List.setIfInBounds_toArray, List.set_cons_zero, List.set_cons_succ]
              rfl
            as_aux_lemma =>
              refine pure_ (i := 7) (N := (some 8)) (v := ?_) (a' := ?_) #[true, true, true, true, true, true, true, true, false, false] rfl rfl (by kernel_rfl) (fun _ _ _ h => h) (Or.inl ⟨by rfl, ?_⟩) ?_ ?_
              rotate_left
              · intro w'
                go_simp
                with_reducible rfl
              rotate_left
              · simp only [Act.put, List.setIfInBounds_toArray, List.set_cons_zero, List.set_cons_succ]
                rfl
              refine pure_ (i := 8) (N := (some 9)) (v := ?_) (a' := ?_) #[true, true, true, true, true, true, true, true, true, false] rfl rfl (by kernel_rfl) (fun _ _ _ h => h) (Or.inl ⟨by rfl, ?_⟩) ?_ ?_
              rotate_left
              · intro w'
                go_simp
                with_reducible rfl
              rotate_left
              · simp only [Act.put, List.setIfInBounds_toArray, List.set_cons_zero, List.set_cons_succ]
                rfl
              have hz : W2.frozen? ⟨b10, 0, none⟩ = false := blk_frozen hbn.1 0
              have hc9 : W2.cell? ⟨b10, 0, none⟩ = some (.slice none 0 0) := (blk_cell hbn.1 0).trans rfl
              refine last_ (i := 9) (N := none) #[true, true, true, true, true, true, true, true, true, true] rfl rfl (by kernel_rfl) (by decide) (fun K hK => ?_)
              refine skip_ (w1 := ?_) (by rfl) rfl ?_ ?_
              rotate_left
              · go_simp
                rfl
              refine hK.out _ _ ?_
              clear hK K
              refine done_ (by kernel_rfl) ?_
              refine NoPanic.normal ?_
              go_wp2_with fail
              go_meet
              case rel => exact ⟨q, sq, Bs, cv, b10, Aw, nw, rfl, rfl, rfl, hcl.put hbn, hal.put hbn, hws_.put hbn, hbn.put _, kk.then_ (kp_put (g := b10) _) (fun q hq => .inr (by rw [hq]; exact hbn.2))⟩
  clear c7
  obtain ⟨w5, rfl⟩ : ∃ x, x = wc := ⟨_, rfl⟩
  obtain ⟨q, sq, Bs, cv, b10, Aw, nw, rfl, rfl, rfl, hcl, hal, hwst, hbn, kk⟩ := hcut
  have hq : (binOp BinOp.eql 37 (Value.func (Fn.func 68) #[] #[.pointer (some ⟨Bs, 0, none⟩)]) Value.nilFunc).run Try.prog w5 = .ok (.bool false) w5 := by kernel_rfl
  have HB75 := Aside0.mk (blk_kp HB74.out kk (fun h => h))
  have c7 : w5.cell? ⟨b7, 0, none⟩ = some (.pointer (some ⟨p, 0, none⟩)) := (blk_cell HB75.out 0).trans rfl
  have HS5 := Aside0.mk (HS4.out.stay kk)
  have K5 := Aside0.mk (K4.out.then_ kk (fun _ h => h.elim))
  have h45 := kk.size
  have HCL := Aside0.mk hcl
  have HAL := Aside0.mk hal
  have HWS := Aside0.mk hwst
  have HBN := Aside0.mk hbn
  clear hcl hal hwst hbn kk HS4 K4 HB74
  go_upto_region 7 with (fail)
  clear hq
  go_cut [11, 12] from 20 (fun s11 s12 wx => ∃ (a1 a2 : Option Addr) (c1 c2 base2 : Nat), s11 = .slice a1 R.length c1 ∧ s12 = .slice a2 R.length c2 ∧ wx.ownsRow w5.heap.size 29 2 (.slice a1 R.length c1) R.length (flat R) ∧ wx.ownsRow base2 29 2 (.slice a2 R.length c2) R.length (flat R) ∧ w5.heap.size ≤ base2 ∧ (∀ k, (Value.slice a1 R.length c1).ownBlock = some k → k < base2) ∧ Kp w5 wx (fun _ => False))
  case first =>
    refine wp_region_noPanic ?_
    refine start_ (n := 6) (S := fun w' => w'.cell? ⟨b7, 0, none⟩ = some (.pointer (some ⟨p, 0, none⟩))) (ds := []) #[false, false, false, false, false, false] (by kernel_rfl) rfl rfl c7 (fun hHeld => ?_)
    refine take_ (i := 0) (N := (some 40)) (v := ?_) (a' := ?_) #[true, false, false, false, false, false] rfl rfl (by kernel_rfl) (fun _ _ _ h => h) (Or.inl ⟨by rfl, ?_⟩) hHeld ?_ ?_
    rotate_left
    · intro w' s0
      go_simp
      with_reducible rfl
    rotate_left
    · simp only [Act.put, List.setIfInBounds_toArray, List.set_cons_zero, List.set_cons_succ]
      rfl
    refine take_ (i := 2) (N := (some 42)) (v := ?_) (a' := ?_) #[true, false, true, false, false, false] rfl rfl (by kernel_rfl) (fun _ _ _ h => h) (Or.inl ⟨by rfl, ?_⟩) hHeld ?_ ?_
    rotate_left
    · intro w' s0
      go_simp
      with_reducible rfl
    rotate_left
    · simp only [Act.put, List.setIfInBounds_toArray, List.set_cons_zero, List.set_cons_succ]
      rfl
    have kk : Kp w5 w5.drew (fun _ => False) := (Kp.refl _ _).drew
    refine one_ (i := 1) (N := (some 41)) #[true, true, true, false, false, false] rfl rfl (by kernel_rfl) (by decide) (fun K hK => ?_)
    refine goes_ Try.func11 (by kernel_rfl) rfl #[.pointer (some ⟨p, 0, none⟩)] (by rfl) rfl rfl (by (try simp only [List.map_toArray, List.map_cons, List.map_nil]); first | done | rfl) ?_
    refine (runs_calls (HS5.out.stay kk) (by omega)).mono ?_
    rintro e v1 ⟨r1, rfl, ho1, K2⟩
    have hl1 : ∀ k, r1.ownBlock = some k → k < v1.heap.size := fun k hk => (row_blk ho1 hk).2
    have hkz1 := kk.size
    have kk := kk.then_ K2 (fun _ h => h.elim)
    obtain ⟨a1, c1, rfl, _⟩ := Su8.own_slice ho1
    clear K2
    refine ⟨_, rfl, ?_⟩
    refine hK.out _ _ (cell_kp c7 kk (fun h => h)) (fun hHeld => ?_)
    clear hK K
    refine norm_ (a' := ?_) ?_ ?_
    rotate_left
    · show Act.put _ (some 41) _ = _
      simp only [Act.put, List.setIfInBounds_toArray, List.set_cons_zero, List.set_cons_succ]
      rfl
    as_aux_lemma =>
      refine one_ (i := 3) (N := (some 43)) #[true, true, true, true, false, false] rfl rfl (by kernel_rfl) (by decide) (fun K hK => ?_)
      refine goes_ Try.func11 (by kernel_rfl) rfl #[.pointer (some ⟨p, 0, none⟩)] (by rfl) rfl rfl (by (try simp only [List.map_toArray, List.map_cons, List.map_nil]); first | done | rfl) ?_
      refine (runs_calls (HS5.out.stay kk) (by omega)).mono ?_
      rintro e v2 ⟨r2, rfl, ho2, K2⟩
      have ho1 := row_kp ho1 K2 (fun _ _ h => h)
      have hkz2 := kk.size
      have kk := kk.then_ K2 (fun _ h => h.elim)
      obtain ⟨a2, c2, rfl, _⟩ := Su8.own_slice ho2
      clear K2
      refine ⟨_, rfl, ?_⟩
      refine hK.out _ _ (cell_kp c7 kk (fun h => h)) (fun hHeld => ?_)
      clear hK K
      refine norm_ (a' := ?_) ?_ ?_
      rotate_left
      · show Act.put _ (some 43) _ = _
        simp only [Act.put, List.setIfInBounds_toArray, List.set_cons_zero, List.set_cons_succ]
        rfl
      as_aux_lemma =>
        refine pure_ (i := 4) (N := (some 11)) (v := ?_) (a' := ?_) #[true, true, true, true, true, false] rfl rfl (by kernel_rfl) (fun _ _ _ h => h) (Or.inl ⟨by rfl, ?_⟩) ?_ ?_
        rotate_left
        · intro w'
          go_simp
          with_reducible rfl
        rotate_left
        · simp only [Act.put, List.setIfInBounds_toArray, List.set_cons_zero, List.set_cons_succ]
          rfl
        refine pure_ (i := 5) (N := (some 12)) (v := ?_) (a' := ?_) #[true, true, true, true, true, true] rfl rfl (by kernel_rfl) (fun _ _ _ h => h) (Or.inl ⟨by rfl, ?_⟩) ?_ ?_
        rotate_left
        · intro w'
          go_simp
          with_reducible rfl
        rotate_left
        · simp only [Act.put, List.setIfInBounds_toArray, List.set_cons_zero, List.set_cons_succ]
          rfl
        refine done_ (by kernel_rfl) ?_
        refine NoPanic.normal ?_
        go_wp2_with fail
        go_meet
        case rel => exact ⟨a1, a2, c1, c2, v1.heap.size, rfl, rfl, row_lower ho1 hkz1, ho2, hkz2, hl1, kk⟩
  clear c7
  obtain ⟨w7, rfl⟩ : ∃ x, x = wc := ⟨_, rfl⟩
  obtain ⟨a1, a2, c1, c2, base2, rfl, rfl, ho1, ho2, hb2, hlt1, k57⟩ := hcut
  obtain ⟨G, hG⟩ : ∃ G : Nat → Prop, (fun k => ((Value.slice a1 R.length c1).ownBlock = some k ∨ k = p) ∨ w7.heap.size ≤ k) = G := ⟨_, rfl⟩
  have HG1 : Aside0 (∀ k, ((Value.slice a1 R.length c1).ownBlock = some k ∨ w7.heap.size ≤ k) → G k) := ⟨fun k hk => by rw [← hG]; exact hk.elim (fun h => .inl (.inl h)) .inr⟩
  have HGp : Aside0 (G p) := ⟨by rw [← hG]; exact .inl (.inr rfl)⟩
  have HGge : Aside0 (∀ k, G k → p ≤ k) := ⟨fun k hk => by
    rw [← hG] at hk
    rcases hk with (hk | hk) | hk
    · have := (row_blk ho1 hk).1; have := HP.out; omega
    · omega
    · have := k57.size; omega⟩
  have hsz57 := k57.size
  have HST7 : Aside0 (Sta G w7 w7 w.heap.size b7 p q Bs b10 stop sq cv (.slice Aw R.length nw) (.slice a2 R.length c2) R) := ⟨by
    have := HP.out
    rw [← hG]
    exact sta_mk B3.out B4.out (K5.out.then_ k57 (fun _ h => h.elim)) HB75.out h17 (by omega) (by omega) hws HCL.out HAL.out HWS.out HBN.out k57 ho1 ho2 hb2 hlt1 (by omega) HP.out⟩
  have HSET7 := Aside0.mk (HS5.out.stay k57)
  have HKA7 := Aside0.mk (K5.out.then_ k57 (fun _ h => h.elim))
  have HSB : Aside0 (∀ k, sv.ownBlock = some k → k < w5.heap.size) := ⟨fun k hk => (row_blk HS5.out.own hk).2⟩
  have HO1 := Aside0.mk ho1
  clear ho1 ho2 hlt1 k57 hG HCL HAL HWS HBN HB75 HS5 K5
  as_aux_lemma =>
    obtain ⟨i0, hi0, hz0, hz1, hz2⟩ := info_parts infoR
    have HZ := Aside0.mk hi0
    have HZ0 := Aside0.mk hz0
    have HZ1 := Aside0.mk hz1
    have HZ2 := Aside0.mk hz2
    clear hi0 hz0 hz1 hz2
    have hpW : p < w5.heap.size := by omega
    go_upto_block 0 with (fail)
    go_cut [] from 20 (fun wx => (∃ xs, wx.ownsRow w5.heap.size 29 2 (.slice a1 R.length c1) R.length xs) ∧ Kp w7 wx (fun k => (Value.slice a1 R.length c1).ownBlock = some k))
    case first =>
      go_wp2_with fail
      go_loopw [46] (fun kv wr => ∃ k : Nat, k ≤ R.length ∧ kv = .int .i64 k ∧ Aside0 (∃ xs, wr.ownsRow w5.heap.size 29 2 (.slice a1 R.length c1) R.length xs) ∧ Aside0 (Kp w7 wr (fun k => (Value.slice a1 R.length c1).ownBlock = some k))) (fun kv _ => R.length - (intOf kv).toNat)
      case atStart => exact ⟨0, Nat.zero_le _, rfl, ⟨_, HO1.out⟩, ⟨Kp.refl _ _⟩⟩
      case round =>
        obtain ⟨k, hk, rfl, HX, HK⟩ := hrel
        by_cases hlt : k < R.length
        · have t2 : decide ((k : Int) < (R.length : Int)) = true := decide_eq_true (by omega)
          obtain ⟨xs, hxs⟩ := HX.out
          obtain ⟨a', c', he, hg⟩ := Su8.own_slice hxs
          obtain ⟨g, rfl⟩ := hg (by omega)
          cases he
          have hxl : xs.length = R.length * 2 := hxs.1
          obtain ⟨u0, e0⟩ : ∃ u, xs[k * 2]? = some u := ⟨_, List.getElem?_eq_getElem (by omega)⟩
          obtain ⟨u1, e1⟩ : ∃ u, xs[k * 2 + 1]? = some u := ⟨_, List.getElem?_eq_getElem (by omega)⟩
          have p0 := own_cell hxs _ _ e0
          have p1 := own_cell hxs _ _ e1
          have z0 := own_frozen hxs (k * 2)
          have z1 := own_frozen hxs (k * 2 + 1)
          have k0 : (0 : Int) ≤ (k : Int) := by omega
          have k1 : (k : Int) < (R.length : Int) := by omega
          have HXS := Aside0.mk hxs
          clear hxs HX e0 e1 hxl hg
          go_wp2_with fail
          have hown := own_set (own_set HXS.out (k * 2) (.int .u8 7)) (k * 2 + 1) (.int .u8 3)
          have hkp : Kp w7 ((wr.setCell ⟨g, k * 2, none⟩ (.int .u8 7)).setCell ⟨g, k * 2 + 1, none⟩ (.int .u8 3)) (fun k => (Value.slice (some ⟨g, 0, none⟩) R.length c1).ownBlock = some k) := (HK.out.then_ (kp_put _) (fun q hq => .inl (by rw [hq]; rfl))).then_ (kp_put _) (fun q hq => .inl (by rw [hq]; rfl))
          have HOW := Aside0.mk hown
          have HKP := Aside0.mk hkp
          clear hown hkp p0 p1 z0 z1
          go_roundw
          case measure => simp [intOf]; omega
          case rel => exact ⟨k + 1, by omega, by go_num, ⟨_, HOW.out⟩, HKP⟩
        · obtain rfl : k = R.length := by omega
          go_wp2_with fail
          go_meet
          case rel => exact ⟨HX.out, HK.out⟩
    obtain ⟨w8, rfl⟩ : ∃ x, x = wc := ⟨_, rfl⟩
    obtain ⟨⟨xs1, ho8⟩, k78⟩ := hcut
    have HO8 := Aside0.mk ho8
    have K78 := Aside0.mk k78
    have h78 := k78.size
    clear ho8 k78 HO1
    as_aux_lemma =>
      go_upto_block 2 with (fail)
      go_cut [11] from 20 (fun s11 wx => ∃ (a : Option Addr) (c : Nat), s11 = .slice a (R.length + 20) c ∧ Kp w7 wx (fun k => (Value.slice a1 R.length c1).ownBlock = some k ∨ w7.heap.size ≤ k))
      case first =>
        go_wp2_with fail
        go_loopw [11, 14] (fun ov iv wr => ∃ (k : Nat) (xs : List Value), k ≤ 20 ∧ iv = .int .i64 k ∧ Aside0 (wr.ownsRow w5.heap.size 29 2 ov (R.length + k) xs) ∧ Aside0 (Kp w7 wr (fun k => (Value.slice a1 R.length c1).ownBlock = some k ∨ w7.heap.size ≤ k)) ∧ Aside0 (∀ q, ov.ownBlock = some q → (Value.slice a1 R.length c1).ownBlock = some q ∨ w7.heap.size ≤ q)) (fun _ iv _ => 20 - (intOf iv).toNat)
        case atStart => exact ⟨0, xs1, Nat.zero_le _, rfl, ⟨HO8.out⟩, ⟨K78.out.mono (fun k hk => .inl hk)⟩, ⟨fun q hq => .inl hq⟩⟩
        case round =>
          obtain ⟨k, xs, hk, rfl, HX, HK, HLC⟩ := hrel
          by_cases hlt : k < 20
          · have t2 : decide ((k : Int) < 20) = true := decide_eq_true (by omega)
            have hszr := HK.out.size
            go_wp2_with (at_builtin; refine wpList_append_at rfl (.tmp 58) (.tmp 60) 26 rfl w5.heap.size 29 i0 _ 2 2 Try.underlying26 HZ.out HZ0.out HZ1.out HZ2.out rfl (by decide) u11 (R.length + k) xs rfl (row_kp HX.out ((Kp.refl _ _).alloc _) (fun _ _ h => h)) ⟨wr.heap.size, 0, none⟩ 1 1 [.int .u8 9, .int .u8 0] rfl rfl (fun j u h => newrow0 wr 29 _ j u h) (by intro u hu; simp only [List.mem_cons, List.not_mem_nil, or_false] at hu; rcases hu with rfl | rfl <;> rfl) (by unfold maxLen; omega) (by omega) (by simp; omega) ?_; intro v' w' hown hgrow hloc; have HO := Aside0.mk hown; have HGR := Aside0.mk hgrow; have HLO := Aside0.mk hloc; clear hown hgrow hloc)
            have hkp := (HK.out.alloc (.cells #[.int .u8 9, .int .u8 0] 29)).then_ (kp_grown HGR.out) (fun q hq => .inl (HLC.out q hq))
            have hlc : ∀ q, v'.ownBlock = some q → (Value.slice a1 R.length c1).ownBlock = some q ∨ w7.heap.size ≤ q := fun q hq => by
              rcases HLO.out with h | h
              · exact HLC.out q (by rw [← h]; exact hq)
              · rw [h] at hq; cases hq; exact .inr (by rw [World.size_alloc]; omega)
            have HKP := Aside0.mk hkp
            have HLCP := Aside0.mk hlc
            clear hkp hlc HX HK HLC HGR HLO
            go_roundw
            case measure => simp [intOf]; omega
            case rel => exact ⟨k + 1, _, by omega, by go_num, HO, HKP, HLCP⟩
          · obtain rfl : k = 20 := by omega
            have t2 : decide ((20 : Int) < 20) = false := by decide
            obtain ⟨a', c', he, _⟩ := Su8.own_slice HX.out
            subst he
            go_wp2_with fail
            go_meet
            case rel => exact ⟨a', c', rfl, HK.out⟩
      obtain ⟨w9, rfl⟩ : ∃ x, x = wc := ⟨_, rfl⟩
      obtain ⟨a9, c9, rfl, k79⟩ := hcut
      have HST9 := Aside0.mk (HST7.out.keep k79 (fun k hk => HG1.out k hk))
      have HSET9 : Aside0 (SetAt w9 p p sv R) := ⟨HSET7.out.kept k79 (fun h => by
        rcases h with h | h
        · have := (row_blk HO8.out h).1; omega
        · have := blk_lt HSET7.out.head; omega) (fun b hb h => by
        have h0 := HSB.out b hb
        rcases h with h | h
        · have := (row_blk HO8.out h).1; omega
        · have := (row_blk HSET7.out.own hb).2; omega)⟩
      have h79 := k79.size
      have HGOOD := Aside0.mk HSET7.out.good
      clear k79 HST7 HSET7 HO8 K78 HSB
      as_aux_lemma =>
        have c10 : w9.cell? ⟨b10, 0, none⟩ = some (.slice Aw R.length nw) := (blk_cell HST9.out.wb 0).trans rfl
        go_upto_block 4 with (fail)
        clear c10
        go_cut [] from 20 (fun wx => Kp w9 wx (fun _ => False))
        case first =>
          go_wp2_with fail
          go_loopw [64] (fun kv wr => ∃ k : Nat, k ≤ R.length ∧ kv = .int .i64 k ∧ Aside0 (Kp w9 wr (fun _ => False))) (fun kv _ => R.length - (intOf kv).toNat)
          case atStart => exact ⟨0, Nat.zero_le _, rfl, ⟨Kp.refl _ _⟩⟩
          case round =>
            obtain ⟨k, hk, rfl, HK⟩ := hrel
            by_cases hlt : k < R.length
            · have t2 : decide ((k : Int) < (R.length : Int)) = true := decide_eq_true (by omega)
              have hr : R[k]? = some (R.getD k (0, 0)) := by rw [List.getElem?_eq_getElem hlt]; simp [hlt]
              have hb := HGOOD.out.ok _ (List.mem_of_getElem? hr)
              have hsta := HST9.out.stay HK.out
              obtain ⟨_, htw⟩ := hsta.tw
              obtain ⟨_, hwr⟩ := hsta.wr
              obtain ⟨g2, rfl, c1, c2⟩ := run_cells htw hr
              obtain ⟨gw, rfl, d1, d2⟩ := told_cells hwr hr
              have c10 : wr.cell? ⟨b10, 0, none⟩ = some (.slice (some ⟨gw, 0, none⟩) R.length nw) := (blk_cell hsta.wb 0).trans rfl
              generalize R.getD k (0, 0) = r at *
              obtain ⟨r1, r2⟩ := r
              simp only at c1 c2 d1 d2 hb
              obtain ⟨hb1, hb2, hb3⟩ := hb
              unfold tMin at hb1
              unfold tMax at hb3
              have hb4 : 0 ≤ r2 := by omega
              have hb5 : r1 ≤ 255 := by omega
              have k0 : (0 : Int) ≤ (k : Int) := by omega
              have k1 : (k : Int) < (R.length : Int) := by omega
              clear hsta htw hwr hr
              go_upto_region 20 with (fail)
              go_quiet (fail)
              have HK2 := Aside0.mk (HK.out.drewN nq)
              clear c1 c2 d1 d2 c10 HK
              go_wp2_with fail
              go_roundw
              case measure => simp [intOf]; omega
              case rel => exact ⟨k + 1, by omega, by go_num, HK2⟩
            · obtain rfl : k = R.length := by omega
              go_wp2_with fail
              go_meet
              case rel => exact HK.out
        obtain ⟨w10, rfl⟩ : ∃ x, x = wc := ⟨_, rfl⟩
        have HST10 := Aside0.mk (HST9.out.stay hcut)
        have HSET10 := Aside0.mk (HSET9.out.stay hcut)
        have KWz : Aside0 (∀ {W : World}, Kp w7 W G → Kp w W (fun _ => False)) := ⟨fun h => (KA.out.then_ HKA7.out (fun _ h => h.elim)).then_ h (fun k hk => .inr (by have := HGge.out k hk; have := HP.out; omega))⟩
        clear hcut HST9 HSET9
        as_aux_lemma =>
          go_upto_block 6 with (fail)
          go_cut [] from 20 (fun wx => Sta G w7 wx w.heap.size b7 p q Bs b10 stop sq cv (.slice Aw R.length nw) (.slice a2 R.length c2) R ∧ ∃ sv' R', SetAt wx p p sv' R' ∧ R'.length ≤ 120)
          case first =>
            go_wp2_with fail
            go_loopw [16] (fun kv wr => ∃ k : Nat, k ≤ len2 ∧ k ≤ 40 ∧ kv = .int .i64 k ∧ Aside0 (Sta G w7 wr w.heap.size b7 p q Bs b10 stop sq cv (.slice Aw R.length nw) (.slice a2 R.length c2) R) ∧ Aside0 (∃ sv' R', SetAt wr p p sv' R' ∧ R'.length ≤ 40 + 2 * k)) (fun kv _ => len2 - (intOf kv).toNat)
            case atStart => exact ⟨0, Nat.zero_le _, Nat.zero_le _, rfl, HST10, ⟨_, _, HSET10.out, by omega⟩⟩
            case round =>
              clear HST10 HSET10
              obtain ⟨k, hk, hk4, rfl, HSZ, HEZ⟩ := hrel
              by_cases hlt : k < len2
              · have t2 : decide ((k : Int) < (len2 : Int)) = true := decide_eq_true (by omega)
                by_cases hlt4 : k < 40
                · have t3 : decide ((k : Int) < 40) = true := decide_eq_true (by omega)
                  obtain ⟨ad, rfl, s0, s1, s2, s3⟩ := HS2.out k hlt
                  rw [Ow.add_field _ _ 2 (by omega)] at s2
                  rw [Ow.add_field _ _ 3 (by omega)] at s3
                  generalize (T2 k).lo = lo at *
                  generalize (T2 k).hi = hi at *
                  have T2c : Aside0 (∀ W, Kp w W (fun _ => False) → W.cell? ⟨(ad.add (k * 4)).block, (ad.add (k * 4)).off + 2, none⟩ = some (.int .i64 lo)) := ⟨fun W K => cell_kp s2 K (fun h => h)⟩
                  have T3c : Aside0 (∀ W, Kp w W (fun _ => False) → W.cell? ⟨(ad.add (k * 4)).block, (ad.add (k * 4)).off + 3, none⟩ = some (.int .i64 hi)) := ⟨fun W K => cell_kp s3 K (fun h => h)⟩
                  have L0 := Aside0.mk (u8_in lo)
                  have L1 := Aside0.mk (u8_in hi)
                  have k0 : (0 : Int) ≤ (k : Int) := by omega
                  have k1 : (k : Int) < (len2 : Int) := by omega
                  clear s0 s1 s2 s3
                  obtain ⟨wz, rfl⟩ : ∃ x, x = wr := ⟨_, rfl⟩
                  go_upto_region 26 with (fail)
                  have d7 : wz.drew.cell? ⟨b7, 0, none⟩ = some (.pointer (some ⟨p, 0, none⟩)) := (blk_cell HSZ.out.sb 0).trans rfl
                  have d2 : wz.drew.cell? ⟨(ad.add (k * 4)).block, (ad.add (k * 4)).off + 2, none⟩ = some (.int .i64 lo) := T2c.out wz ((KWz.out (HSZ.out.kp)))
                  have d3 : wz.drew.cell? ⟨(ad.add (k * 4)).block, (ad.add (k * 4)).off + 3, none⟩ = some (.int .i64 hi) := T3c.out wz ((KWz.out (HSZ.out.kp)))
                  have H4 := Aside0.mk (HSZ.out.stay (dr wz))
                  obtain ⟨sv4, R4, hset4, hl4⟩ := HEZ.out
                  have H5 := Aside0.mk (hset4.stay (dr wz))
                  have H6 := Aside0.mk hl4
                  clear hset4 hl4 HSZ HEZ
                  refine wp_region_still_tail 13 (by kernel_rfl) (by kernel_rfl) ?_
                  change wpStill _ _ wz.drew (fun a' => wpList _ _ _ _ a' wz.drew) _ _
                  generalize wz.drew = U at *
                  simp only [List.take_succ_cons, List.take_zero, List.drop_succ_cons, List.drop_zero]
                  repeat still_step
                  refine wpStill_nil ?_
                  go_wp2_with fail
                  refine (add_sem H5.out (IntKind.u8.wrap lo) (IntKind.u8.wrap hi) L0.out.1 L1.out.2 (by have := H6.out; omega) (Nat.le_trans H5.out.pbase (Nat.le_of_lt (blk_lt H5.out.head)))).mono ?_
                  rintro e wy ⟨bb, R5, rfl, hL, _⟩
                  have HSY := Aside0.mk (H4.out.keep hL.kept (fun k hk => by rw [hk]; exact HGp.out))
                  have HEY : Aside0 (∃ sv' R', SetAt wy p p sv' R' ∧ R'.length ≤ 40 + 2 * k + 1) := ⟨by
                    obtain ⟨sv5, h5, _⟩ := hL.set
                    exact ⟨sv5, R5, h5, by have := hL.len; have := H6.out; omega⟩⟩
                  clear hL H4 H5 H6 d7 d2 d3
                  obtain ⟨wz, rfl⟩ : ∃ x, x = wy := ⟨_, rfl⟩
                  have HSZ := HSY
                  have HEZ := HEY
                  clear HSY HEY
                  go_upto_region 27 with (fail)
                  have d7 : wz.drew.cell? ⟨b7, 0, none⟩ = some (.pointer (some ⟨p, 0, none⟩)) := (blk_cell HSZ.out.sb 0).trans rfl
                  have d2 : wz.drew.cell? ⟨(ad.add (k * 4)).block, (ad.add (k * 4)).off + 2, none⟩ = some (.int .i64 lo) := T2c.out wz ((KWz.out (HSZ.out.kp)))
                  have d3 : wz.drew.cell? ⟨(ad.add (k * 4)).block, (ad.add (k * 4)).off + 3, none⟩ = some (.int .i64 hi) := T3c.out wz ((KWz.out (HSZ.out.kp)))
                  have H4 := Aside0.mk (HSZ.out.stay (dr wz))
                  obtain ⟨sv4, R4, hset4, hl4⟩ := HEZ.out
                  have H5 := Aside0.mk (hset4.stay (dr wz))
                  have H6 := Aside0.mk hl4
                  clear hset4 hl4 HSZ HEZ
                  refine wp_region_still_tail 13 (by kernel_rfl) (by kernel_rfl) ?_
                  change wpStill _ _ wz.drew (fun a' => wpList _ _ _ _ a' wz.drew) _ _
                  generalize wz.drew = U at *
                  simp only [List.take_succ_cons, List.take_zero, List.drop_succ_cons, List.drop_zero]
                  repeat still_step
                  refine wpStill_nil ?_
                  go_wp2_with fail
                  refine (cut_sem H5.out (IntKind.u8.wrap hi) (IntKind.u8.wrap lo) L1.out.1 L0.out.2 (by have := H6.out; omega) (Nat.le_trans H5.out.pbase (Nat.le_of_lt (blk_lt H5.out.head)))).mono ?_
                  rintro e wy ⟨bb, R5, rfl, hL, _⟩
                  have HSY := Aside0.mk (H4.out.keep hL.kept (fun k hk => by rw [hk]; exact HGp.out))
                  have HEY : Aside0 (∃ sv' R', SetAt wy p p sv' R' ∧ R'.length ≤ 40 + 2 * k + 2) := ⟨by
                    obtain ⟨sv5, h5, _⟩ := hL.set
                    exact ⟨sv5, R5, h5, by have := hL.len; have := H6.out; omega⟩⟩
                  clear hL H4 H5 H6 d7 d2 d3
                  go_wp2_with fail
                  go_roundw
                  case measure => simp [intOf]; omega
                  case rel => exact ⟨k + 1, by omega, by omega, by go_num, HSY, HEY⟩
                · have t3 : decide ((k : Int) < 40) = false := decide_eq_false (by omega)
                  go_wp2_with fail
                  go_meet
                  case rel => exact ⟨HSZ.out, by obtain ⟨x1, x2, x3, x4⟩ := HEZ.out; exact ⟨x1, x2, x3, by omega⟩⟩
              · have t2 : decide ((k : Int) < (len2 : Int)) = false := decide_eq_false (by omega)
                go_wp2_with fail
                go_meet
                case rel => exact ⟨HSZ.out, by obtain ⟨x1, x2, x3, x4⟩ := HEZ.out; exact ⟨x1, x2, x3, by omega⟩⟩
          clear HST10 HSET10
          obtain ⟨wd, rfl⟩ : ∃ x, x = wc := ⟨_, rfl⟩
          obtain ⟨hsta, svd, Rd, hset, hld⟩ := hcut
          go_upto_block 8 with (fail)
          obtain ⟨wN, hwN⟩ : ∃ wN, wd.alloc (.cells #[.int .i64 0] 3) = wN := ⟨_, rfl⟩
          have kN : Kp wd wN (fun _ => False) := by rw [← hwN]; exact (Kp.refl _ _).alloc _
          have hbt := heap_alloc_new wd (.cells #[.int .i64 0] 3)
          rw [hwN] at hbt ⊢
          clear hwN
          have HSTN := Aside0.mk (hsta.stay kN)
          have hpd : p < wd.heap.size := blk_lt hset.head
          have hdN : wd.heap.size < wN.heap.size := blk_lt hbt
          have h7d : w7.heap.size ≤ wd.heap.size := hsta.kp.size
          have hR0 : Aside0 (Rn wd.heap.size wN wN p wd.heap.size 0) := ⟨⟨hbt, Nat.le_refl _, ⟨svd, Rd, hset.stay kN, by omega⟩, Kp.refl _ _⟩⟩
          have HSG : Aside0 (∀ k, (wN.heap.size ≤ k ∨ k = p) → G k) := ⟨fun k hk => hk.elim (fun h => HG1.out k (.inr (by omega))) (fun h => by rw [h]; exact HGp.out)⟩
          clear hsta hset hld hbt kN
          generalize wd.heap.size = d at *
          as_aux_lemma =>
            go_step
            refine loop_two (fun t a W => ∃ (x18 x19 x132 x133 x134 x135 x136 x137 x138 x139 x140 x141 x142 x143 x144 x145 x146 x147 x148 x149 x150 x151 x152 x153 x154 x155 x156 x157 x158 x159 x160 x161 x162 x163 x164 x165 x166 x167 x168 x169 x170 x171 x172 x173 x174 x175 x176 x177 x178 x179 x180 x181 x182 x183 x184 x185 x186 x187 x188 : Value) (bt : Nat) (ds : List Deferred), a = { tmps := #[.slice A len cap, .slice B len2 cap2, .int .i64 stop, undef, undef, .pointer (some ⟨w.heap.size, 0, none⟩), .pointer (some ⟨w.heap.size + 1, 0, none⟩), .pointer (some ⟨b7, 0, none⟩), .pointer (some ⟨q, 0, none⟩), .func (.func 68) #[] #[.pointer (some ⟨Bs, 0, none⟩)], .pointer (some ⟨b10, 0, none⟩), .slice a9 (R.length + 20) c9, .slice a2 R.length c2, u13, u14, u15, u16, .pointer (some ⟨bt, 0, none⟩), x18, x19, u20, u21, u22, u23, u24, u25, u26, u27, u28, u29, u30, u31, u32, u33, u34, u35, u36, u37, u38, u39, u40, u41, u42, u43, u44, u45, u46, u47, u48, u49, u50, u51, u52, u53, u54, u55, u56, u57, u58, u59, u60, u61, u62, u63, u64, u65, u66, u67, u68, u69, u70, u71, u72, u73, u74, u75, u76, u77, u78, u79, u80, u81, u82, u83, u84, u85, u86, u87, u88, u89, u90, u91, u92, u93, u94, u95, u96, u97, u98, u99, u100, u101, u102, u103, u104, u105, u106, u107, u108, u109, u110, u111, u112, u113, u114, u115, u116, u117, u118, u119, u120, u121, u122, u123, u124, u125, u126, u127, u128, u129, u130, u131, x132, x133, x134, x135, x136, x137, x138, x139, x140, x141, x142, x143, x144, x145, x146, x147, x148, x149, x150, x151, x152, x153, x154, x155, x156, x157, x158, x159, x160, x161, x162, x163, x164, x165, x166, x167, x168, x169, x170, x171, x172, x173, x174, x175, x176, x177, x178, x179, x180, x181, x182, x183, x184, x185, x186, x187, x188, u189, u190, u191, u192, u193, u194, u195, u196, u197, u198, u199, u200], defers := ds } ∧ Aside0 (Rn d wN W p bt t) ∧ Aside0 (Dn wN W ds t)) ⟨_, _, _, _, _, _, _, _, _, _, _, _, _, _, _, _, _, _, _, _, _, _, _, _, _, _, _, _, _, _, _, _, _, _, _, _, _, _, _, _, _, _, _, _, _, _, _, _, _, _, _, _, _, _, _, _, _, _, _, d, [], rfl, hR0, ⟨.inl ⟨rfl, rfl⟩⟩⟩ ?_
            clear hR0
            rintro t a W ht ⟨x18, x19, x132, x133, x134, x135, x136, x137, x138, x139, x140, x141, x142, x143, x144, x145, x146, x147, x148, x149, x150, x151, x152, x153, x154, x155, x156, x157, x158, x159, x160, x161, x162, x163, x164, x165, x166, x167, x168, x169, x170, x171, x172, x173, x174, x175, x176, x177, x178, x179, x180, x181, x182, x183, x184, x185, x186, x187, x188, bt, ds, rfl, HR, HD⟩ K hK
            have cbt : W.cell? ⟨bt, 0, none⟩ = some (.int .i64 (t : Int)) := (blk_cell HR.out.box 0).trans rfl
            by_cases ht2 : t < 2
            · have t2 : decide ((t : Int) < 2) = true := decide_eq_true (by omega)
              go_upto_block 10 with (fail)
              obtain ⟨w5, hw5⟩ : ∃ w5, W.alloc (.cells #[.int .i64 0] 3) = w5 := ⟨_, rfl⟩
              have k5 : Kp W w5 (fun _ => False) := by rw [← hw5]; exact (Kp.refl _ _).alloc _
              have hbn := heap_alloc_new W (.cells #[.int .i64 0] 3)
              rw [hw5] at hbn ⊢
              clear hw5 cbt
              obtain ⟨svW, RW, hsetW, hlW⟩ := HR.out.set
              have hNW := HR.out.kp.size
              have hW5 : W.heap.size < w5.heap.size := blk_lt hbn
              have hbtW : bt < W.heap.size := blk_lt HR.out.box
              have hpW : p < W.heap.size := blk_lt hsetW.head
              have HJ0 : Aside0 (Jn w5 w5 p W.heap.size (120 + 65536 * t) 0) := ⟨⟨hbn, ⟨svW, RW, hsetW.stay k5, by omega⟩, Kp.refl _ _⟩⟩
              have HKN5 : Aside0 (Kp wN w5 (fun q => wN.heap.size ≤ q ∨ q = p)) := ⟨HR.out.kp.then_ k5 (fun _ h => h.elim)⟩
              have HST5 := Aside0.mk (HSTN.out.keep HKN5.out HSG.out)
              have HBT5 := Aside0.mk (blk_kp HR.out.box k5 (fun h => h))
              have HPC : Aside0 (w5.heap[p]? ≠ some (.deferred (some []))) := ⟨by rw [(hsetW.stay k5).head]; intro h; cases h⟩
              have HBC : Aside0 (w5.heap[W.heap.size]? ≠ some (.deferred (some []))) := ⟨by rw [hbn]; intro h; cases h⟩
              have HK5 := Aside0.mk k5
              have hR40 : R.length ≤ 65536 := by omega
              clear hsetW hlW hbn k5
              generalize W.heap.size = bn at *
              have HQG : Aside0 (∀ q, ((w5.heap.size ≤ q ∨ q = bn) ∨ q = p) → G q) := ⟨fun q hq => by
                rcases hq with (h | h) | h
                · exact HSG.out q (.inl (by omega))
                · exact HSG.out q (.inl (by omega))
                · exact HSG.out q (.inr h)⟩
              refine wp_cutD (fun ds' W' => ∃ D c : Nat, ds' = { target := .collected D, args := #[] } :: ds ∧ c ≤ R.length ∧ Aside0 (Jn w5 W' p bn (120 + 65536 * t) c) ∧ Aside0 (W'.heap[D]? = some (.deferred (some []))) ∧ w5.heap.size ≤ D ∧ (c = R.length ∨ (t = 0 ∧ (c : Int) = stop))) ?rst4 ?fst4
              case fst4 =>
                intro KM hKM
                go_step
                refine (wpIn_wide (n := 9)).1 ?_
                obtain ⟨bi, hown⟩ := HST5.out.itr
                refine Vq.rangeBox (α := Run) rfl (by omega) (gf := 68) (lb := #[.pointer (some ⟨Bs, 0, none⟩)]) rfl trivial (enters_of Try.func68 (by kernel_rfl) rfl)
                  (iter_stops Fence.wide 8 trivial rfl (by omega) Bs bi (fun k => (w5.heap.size ≤ k ∨ k = bn) ∨ k = p) cv R hR40 w5 HST5.out.it hown ?hg4) ?hKt4 ?hKb4 (Below.refl _ _) (fun _ => rfl)
                  (fun pre W => pre.map cn <+: R ∧ Jn w5 W p bn (120 + 65536 * t) pre.length)
                  (fun c pre W => (c = .ret ∧ ¬ (pre.map cn <+: R)) ∨ (c = .exit 10 ∧ pre.map cn <+: R ∧ t = 0 ∧ (pre.length : Int) = stop ∧ Jn w5 W p bn (120 + 65536 * t) pre.length))
                  ?hI4 ?hIx4 ?h04 ?hIw4 ?fr4 (fun x => .cells #[.int .u8 x.1, .int .u8 x.2] 29) (fun _ => rfl) ?assign4 ?body4 ?done4 ?stop4
                case assign4 =>
                  intro l pre x W br K hbr hi hK
                  gi_wp2
                  rw [← hbr]
                  refine hK _ ((KeepsOthers.alloc W (.cells #[.int .u8 x.1, .int .u8 x.2] 29)).from _) ((Kp.refl W _).alloc (.cells #[.int .u8 x.1, .int .u8 x.2] 29)) ⟨hi.1, ?_⟩ (by rw [hbr]; exact heap_alloc_new _ _)
                  obtain ⟨sv, R', h1, h2⟩ := hi.2.set
                  have ka : Kp W (W.alloc (.cells #[.int .u8 x.1, .int .u8 x.2] 29)) (fun _ => False) := (Kp.refl _ _).alloc _
                  exact ⟨blk_kp hi.2.nb ka (fun h => h), ⟨sv, R', h1.stay ka, h2⟩, hi.2.kp.then_ ka (fun _ h => h.elim)⟩
                case hg4 =>
                  intro k hk h
                  exact HST5.out.sepr k (.inl hk) (HQG.out k h)
                case hKt4 =>
                  intro A B C h k
                  exact h.then_ k (fun _ h => .inl h)
                case hKb4 =>
                  intro W l o o' hl ho hc hw
                  exact (kp_row (grownBy_putObj' W l o')).mono (fun k hk => by cases hk; exact .inl (.inl hl))
                case hI4 =>
                  rintro s W W' row ⟨h1, h2⟩ hg hr
                  exact ⟨h1, jn_own h2 hW5 (by omega) hg hr⟩
                case hIx4 =>
                  rintro c s W W' row (h | ⟨h1, h2, h3, h4, h5⟩) hg hr
                  · exact .inl h
                  · exact .inr ⟨h1, h2, h3, h4, jn_own h5 hW5 (by omega) hg hr⟩
                case h04 => exact ⟨List.nil_prefix, HJ0.out⟩
                case hIw4 => exact fun pre W h => h.2.kp.size
                case done4 =>
                  rintro D ys W hD rfl ⟨hp, hJ⟩ hK
                  refine (fun h => h) (hKM _ _ ⟨D, ys.length, rfl, Nat.le_refl _, ⟨hJ⟩, ⟨hK⟩, hD, .inl rfl⟩)
                case stop4 =>
                  rintro D c pre W hD hSp hIx hK
                  have hRc : R.map cn = R := cn_map (fun r hr => by
                    obtain ⟨sv, R', hs, _⟩ := HJ0.out.set
                    obtain ⟨_, hcl⟩ := HST5.out.cl
                    have hb := hcl.good.ok _ hr
                    unfold tMin tMax at hb
                    omega)
                  rcases hIx with ⟨h1, h2⟩ | ⟨rfl, h2, h3, h4, h5⟩
                  · exact absurd (by have := List.IsPrefix.map cn hSp; rwa [hRc] at this) h2
                  · refine wpIn_wide.2 ?_
                    have HX := Aside0.mk (hKM _ _ ⟨D, pre.length, rfl, hSp.length_le, ⟨h5⟩, ⟨hK⟩, hD, .inr ⟨h3, h4⟩⟩)
                    clear hKM h3 h4 h5 hSp hK h2 hRc
                    go_wp2_with fail
                    exact HX.out
                case body4 =>
                  clear hKM hown
                  rintro l pre x br W1 ⟨hp, hJ⟩ hbr hbrl hlen
                  obtain ⟨y, hy⟩ : ∃ y, R[pre.length]? = some y := ⟨_, List.getElem?_eq_getElem hlen⟩
                  have hpx : (pre ++ [x]).map cn <+: R ↔ cn x = y := by
                    have hln : (pre.map cn).length = pre.length := List.length_map ..
                    obtain ⟨t, ht⟩ := hp
                    rw [← hln, ← ht] at hy
                    rw [← ht, List.map_append]
                    rw [List.getElem?_append_right (Nat.le_refl _), Nat.sub_self] at hy
                    cases t with
                    | nil => simp at hy
                    | cons z t =>
                      simp at hy
                      subst hy
                      rw [List.prefix_append_right_inj]
                      simp
                  have hsta1 := HST5.out.keep hJ.kp HQG.out
                  have cn0 : W1.cell? ⟨bn, 0, none⟩ = some (.int .i64 (pre.length : Int)) := (blk_cell hJ.nb 0).trans rfl
                  have zn : W1.frozen? ⟨bn, 0, none⟩ = false := blk_frozen hJ.nb 0
                  obtain ⟨_, hwr⟩ := hsta1.wr
                  obtain ⟨gw, rfl, d1, d2⟩ := told_cells hwr hy
                  have c10 : W1.cell? ⟨b10, 0, none⟩ = some (.slice (some ⟨gw, 0, none⟩) R.length nw) := (blk_cell hsta1.wb 0).trans rfl
                  have r1 : W1.cell? ⟨br, 0, none⟩ = some (.int .u8 x.1) := (blk_cell hbr 0).trans rfl
                  have r2 : W1.cell? ⟨br, 1, none⟩ = some (.int .u8 x.2) := (blk_cell hbr 1).trans rfl
                  have c4 : W1.cell? ⟨w.heap.size + 1, 0, none⟩ = some (.bool false) := (blk_cell hsta1.b4 0).trans rfl
                  have z4 : W1.frozen? ⟨w.heap.size + 1, 0, none⟩ = false := blk_frozen hsta1.b4 0
                  have HPX := Aside0.mk hpx
                  have HJ := Aside0.mk hJ
                  have HSTA := Aside0.mk hsta1
                  have k0 : (0 : Int) ≤ (pre.length : Int) := by omega
                  have k1 : (pre.length : Int) < (R.length : Int) := by omega
                  have t0 : decide ((R.length : Int) ≤ (pre.length : Int)) = false := decide_eq_false (by omega)
                  have t0n : decide (R.length ≤ pre.length) = false := decide_eq_false (by omega)
                  clear hpx hJ hp hy hwr hsta1 hbr
                  as_aux_lemma =>
                    obtain ⟨y1, y2⟩ := y
                    simp only at d1 d2
                    by_cases e0 : IntKind.i64.wrap x.1 = y1
                    · have q0 : (IntKind.i64.wrap x.1 != y1) = false := by rw [e0]; simp
                      by_cases e1 : IntKind.i64.wrap x.2 = y2
                      · have q1 : (IntKind.i64.wrap x.2 != y2) = false := by rw [e1]; simp
                        have HX := Aside0.mk (HPX.out.2 (by unfold cn; rw [e0, e1]))
                        clear e0 e1
                        gi_wp2_with fail
                        refine Vq.region_quiet_round rfl (by kernel_rfl) (by kernel_rfl) (by kernel_rfl) ?_
                        repeat (quiet_step_in (fail))
                        refine wpQuietIn_nil ?_
                        intro _ hw'
                        obtain ⟨nq, hw''⟩ := hw'
                        subst hw''
                        as_aux_lemma =>
                          clear q0 q1 d1 d2 c10 r1 r2 t0 t0n
                          have c7 : W1.cell? ⟨b7, 0, none⟩ = some (.pointer (some ⟨p, 0, none⟩)) := (blk_cell HSTA.out.sb 0).trans rfl
                          have h7 : b7 ≠ bn := by omega
                          gi_wp2_with fail
                          refine ⟨trivial, ?_⟩
                          clear c7 cn0 zn c4 z4
                          have H0 : Aside0 (Kp W1 ((W1.drewN nq).setCell ⟨bn, 0, none⟩ (.int .i64 ((pre.length : Int) + 1))) (fun k => k = bn)) := ⟨((Kp.refl W1 (fun k => k = bn)).drewN nq).setCell (by left; rfl) _⟩
                          have HN : Aside0 (((W1.drewN nq).setCell ⟨bn, 0, none⟩ (.int .i64 ((pre.length : Int) + 1))).heap[bn]? = some (.cells #[.int .i64 ((pre.length : Int) + 1)] 3 (0, 0))) := ⟨blk_put (w := W1.drewN nq) HJ.out.nb 0 _ rfl⟩
                          generalize (W1.drewN nq).setCell ⟨bn, 0, none⟩ (.int .i64 ((pre.length : Int) + 1)) = v0 at *
                          obtain ⟨sv6, R6, hs6, hl6⟩ := HJ.out.set
                          have HS6 := Aside0.mk hs6
                          have HS0 := Aside0.mk (hs6.kept H0.out (fun e => by omega) (fun k hk e => row_type_ne hs6.own HJ.out.nb (by decide) (by rw [← e]; exact hk)))
                          have HL6 := Aside0.mk hl6
                          have hl7 : R6.length ≤ 4398046511104 := by omega
                          have hp0 : p ≤ v0.heap.size := by have := blk_lt HS0.out.head; omega
                          clear hs6 hl6
                          refine (CallsIn.inRound l (callsIn_wide.2 (add_sem HS0.out 0 255 (by decide) (by decide) hl7 hp0))).mono ?_
                          rintro e v1 ⟨bb, R7, rfl, hL, _⟩
                          obtain ⟨hj1, hk1, hf1⟩ := jn_step HJ.out HS6.out HL6.out (by omega) hW5 (by omega) H0.out HN.out hL
                          have HJ1 := Aside0.mk hj1
                          have HK1 := Aside0.mk hk1
                          have HF1 := Aside0.mk hf1
                          have cn3 : v1.cell? ⟨bn, 0, none⟩ = some (.int .i64 ((pre.length : Int) + 1)) := (blk_cell hj1.nb 0).trans rfl
                          have cbt3 : v1.cell? ⟨bt, 0, none⟩ = some (.int .i64 (t : Int)) := (blk_cell (blk_kp HBT5.out hj1.kp (fun h => by
                            have := HR.out.lo
                            omega)) 0).trans rfl
                          have c33 : v1.cell? ⟨w.heap.size, 0, none⟩ = some (.int .i64 stop) := (blk_cell (HST5.out.keep hj1.kp HQG.out).b3 0).trans rfl
                          clear hj1 hk1 hf1 hL HS6 HS0 HL6 H0 HN hl7 hp0
                          as_aux_lemma =>
                            have HLN : Aside0 ((pre ++ [x]).length = pre.length + 1) := ⟨by simp⟩
                            by_cases ht0 : t = 0
                            · have z0 : ((t : Int) == 0) = true := by rw [ht0]; rfl
                              have HT0 := Aside0.mk ht0
                              clear ht0
                              by_cases hst : ((pre.length : Int) + 1) = stop
                              · have z1 : (((pre.length : Int) + 1) == stop) = true := by rw [hst]; simp
                                have HST := Aside0.mk hst
                                clear hst
                                gi_wp2
                                exact ⟨HF1.out, .inr ⟨rfl, HX.out, HT0.out, by rw [HLN.out, Int.natCast_add]; exact HST.out, by rw [HLN.out]; exact HJ1.out⟩⟩
                              · have z1 : (((pre.length : Int) + 1) == stop) = false := by simpa using hst
                                clear hst
                                gi_wp2
                                exact ⟨HF1.out, HK1.out, HX.out, by rw [HLN.out]; exact HJ1.out⟩
                            · have z0 : ((t : Int) == 0) = false := by rw [beq_eq_false_iff_ne]; omega
                              clear ht0
                              gi_wp2
                              exact ⟨HF1.out, HK1.out, HX.out, by rw [HLN.out]; exact HJ1.out⟩
                      · have q1 : (IntKind.i64.wrap x.2 != y2) = true := by simpa using e1
                        have HX : Aside0 (¬ ((pre ++ [x]).map cn <+: R)) := ⟨fun h => e1 (by have := HPX.out.1 h; unfold cn at this; injection this)⟩
                        clear e0 e1
                        gi_wp2_with fail
                        refine Vq.region_quiet_round rfl (by kernel_rfl) (by kernel_rfl) (by kernel_rfl) ?_
                        repeat (quiet_step_in (fail))
                        refine wpQuietIn_nil ?_
                        intro _ hw'
                        obtain ⟨nq, hw''⟩ := hw'
                        subst hw''
                        as_aux_lemma =>
                          gi_wp2_with fail
                          have hw4 := blk_lt HST5.out.b4
                          exact ⟨kf_of (((Kp.refl W1 (fun k => k = w.heap.size + 1)).drewN nq).setCell (by left; rfl) _) (fun k hk => by rw [hk]; exact hw4), .inl ⟨rfl, HX.out⟩⟩
                    · have q0 : (IntKind.i64.wrap x.1 != y1) = true := by simpa using e0
                      have HX : Aside0 (¬ ((pre ++ [x]).map cn <+: R)) := ⟨fun h => e0 (by have := HPX.out.1 h; unfold cn at this; injection this)⟩
                      clear e0
                      gi_wp2_with fail
                      refine Vq.region_quiet_round rfl (by kernel_rfl) (by kernel_rfl) (by kernel_rfl) ?_
                      repeat (quiet_step_in (fail))
                      refine wpQuietIn_nil ?_
                      intro _ hw'
                      obtain ⟨nq, hw''⟩ := hw'
                      subst hw''
                      as_aux_lemma =>
                        gi_wp2_with fail
                        have hw4 := blk_lt HST5.out.b4
                        exact ⟨kf_of (((Kp.refl W1 (fun k => k = w.heap.size + 1)).drewN nq).setCell (by left; rfl) _) (fun k hk => by rw [hk]; exact hw4), .inl ⟨rfl, HX.out⟩⟩
              case rst4 =>
                rintro ds' W' ⟨D, c, rfl, hcl, HJ, HDD, hD5, hcs⟩
                have hst' := HST5.out.keep HJ.out.kp HQG.out
                have cn : W'.cell? ⟨bn, 0, none⟩ = some (.int .i64 (c : Int)) := (blk_cell HJ.out.nb 0).trans rfl
                have c9 : W'.cell? ⟨b10, 0, none⟩ = some (.slice Aw R.length nw) := (blk_cell hst'.wb 0).trans rfl
                have cbt : W'.cell? ⟨bt, 0, none⟩ = some (.int .i64 (t : Int)) := (blk_cell (blk_kp HBT5.out HJ.out.kp (fun h => by
                  have := HR.out.lo
                  omega)) 0).trans rfl
                have c3 : W'.cell? ⟨w.heap.size, 0, none⟩ = some (.int .i64 stop) := (blk_cell hst'.b3 0).trans rfl
                have HNX : Aside0 (∀ Wx, Kp W' Wx (fun q => q = W'.heap.size) → Wx.heap[W'.heap.size]? = some (.cells #[.int .i64 ((t : Int) + 1)] 3 (0, 0)) → Rn d wN Wx p W'.heap.size (t + 1) ∧ Dn wN Wx ({ target := .collected D, args := #[] } :: ds) (t + 1)) :=
                  ⟨fun Wx h1 h2 => ⟨turn_next HKN5.out HJ.out hNW hW5 (by omega) (by omega) (by omega) h1 h2, dn_next HD.out HK5.out HBC.out HPC.out HJ.out HDD.out hNW hW5 hD5 ht2 h1⟩⟩
                clear hst'
                as_aux_lemma =>
                  by_cases hc : c = R.length
                  · have q1 : ((c : Int) != (R.length : Int)) = false := by rw [hc]; simp
                    clear hc hcs
                    go_wp2_with fail
                    have HNY := HNX.out _ (((Kp.refl W' (fun q => q = W'.heap.size)).alloc (.cells #[.int .i64 ((t : Int) + 1)] 3))) (heap_alloc_new _ _)
                    exact hK _ _ ht2 ⟨_, _, _, _, _, _, _, _, _, _, _, _, _, _, _, _, _, _, _, _, _, _, _, _, _, _, _, _, _, _, _, _, _, _, _, _, _, _, _, _, _, _, _, _, _, _, _, _, _, _, _, _, _, _, _, _, _, _, _, W'.heap.size, _, rfl, ⟨HNY.1⟩, ⟨HNY.2⟩⟩
                  · obtain ⟨ht0, hst⟩ := hcs.resolve_left hc
                    have q1 : ((c : Int) != (R.length : Int)) = true := by
                      rw [bne_iff_ne]; intro h; exact hc (by omega)
                    have q2 : ((t : Int) == 1) = false := by rw [ht0]; rfl
                    have q3 : ((c : Int) != stop) = false := by rw [hst]; simp
                    clear hc hcs ht0 hst
                    go_wp2_with fail
                    have HNY := HNX.out _ (((Kp.refl W' (fun q => q = W'.heap.size)).alloc (.cells #[.int .i64 ((t : Int) + 1)] 3))) (heap_alloc_new _ _)
                    exact hK _ _ ht2 ⟨_, _, _, _, _, _, _, _, _, _, _, _, _, _, _, _, _, _, _, _, _, _, _, _, _, _, _, _, _, _, _, _, _, _, _, _, _, _, _, _, _, _, _, _, _, _, _, _, _, _, _, _, _, _, _, _, _, _, _, W'.heap.size, _, rfl, ⟨HNY.1⟩, ⟨HNY.2⟩⟩
            · have t2 : decide ((t : Int) < 2) = false := decide_eq_false (by omega)
              obtain rfl : t = 2 := by omega
              have hstW := HSTN.out.keep HR.out.kp HSG.out
              have HB4W := Aside0.mk hstW.b4
              have hlW : w.heap.size + 1 < W.heap.size := blk_lt hstW.b4
              have HKW : Aside0 (Kp w W (fun _ => False)) := ⟨KA.out.then_ ((HKA7.out.then_ hstW.kp (fun k hk => .inr (by have := HGge.out k hk; have := HP.out; omega)))) (fun _ h => h.elim)⟩
              obtain ⟨bcl, hcl⟩ := hstW.cl
              obtain ⟨bwr, hwr⟩ := hstW.wr
              have c10 : W.cell? ⟨b10, 0, none⟩ = some (.slice Aw R.length nw) := (blk_cell hstW.wb 0).trans rfl
              have HRV : Aside0 (RV W (.slice Aw R.length nw) R) := ⟨row_C hwr (by omega)⟩
              have HCL := Aside0.mk hcl
              obtain ⟨_, D, D', rfl, hDD, hd1, hd2, hd3⟩ := (HD.out.resolve_left (fun h => by omega)).resolve_left (fun h => by omega)
              have HD1 := Aside0.mk hd1
              have HD2 := Aside0.mk hd2
              have hdl1 : D' < W.heap.size := (Array.getElem?_eq_some_iff.1 hd2).1
              clear hd1 hd2 HD HR hcl hwr hstW hK
              as_aux_lemma =>
                go_upto_region 43 with (fail)
                clear cbt

                have q5 : IntKind.i64.wrap ((R.length : Int) + 20) = (R.length : Int) + 20 := IntWalk.i64_in _ (by omega)
                have q6 : ((R.length : Int) + 20 == (R.length : Int) + 20) = true := by simp
                have hwN : w.heap.size + 1 < wN.heap.size := blk_lt HSTN.out.b4
                refine wp_region_noPanic ?_
                refine start_ (n := 13) (S := fun w' => w'.cell? ⟨b10, 0, none⟩ = some (.slice Aw R.length nw)) (ds := [12]) #[false, false, false, false, false, false, false, false, false, false, false, false, false] (by kernel_rfl) rfl rfl c10 (fun hHeld => ?_)
                refine pure_ (i := 0) (N := (some 189)) (v := ?_) (a' := ?_) #[true, false, false, false, false, false, false, false, false, false, false, false, false] rfl rfl (by kernel_rfl) (fun _ _ _ h => h) (Or.inl ⟨by rfl, ?_⟩) ?_ ?_
                rotate_left
                · intro w'
                  go_simp
                  with_reducible rfl
                rotate_left
                · simp only [Act.put, List.setIfInBounds_toArray, List.set_cons_zero, List.set_cons_succ]
                  rfl
                refine take_ (i := 2) (N := (some 191)) (v := ?_) (a' := ?_) #[true, false, true, false, false, false, false, false, false, false, false, false, false] rfl rfl (by kernel_rfl) (fun _ _ _ h => h) (Or.inl ⟨by rfl, ?_⟩) hHeld ?_ ?_
                rotate_left
                · intro w' s0
                  go_simp
                  with_reducible rfl
                rotate_left
                · simp only [Act.put, List.setIfInBounds_toArray, List.set_cons_zero, List.set_cons_succ]
                  rfl
                have kk : Kp W W.drew (fun _ => False) := (Kp.refl _ _).drew
                refine one_ (i := 1) (N := (some 190)) #[true, true, true, false, false, false, false, false, false, false, false, false, false] rfl rfl (by kernel_rfl) (by decide) (fun K hK => ?_)
                refine goes_ Try.func18 (by kernel_rfl) rfl #[.pointer (some ⟨q, 0, none⟩)] (by rfl) rfl rfl (by (try simp only [List.map_toArray, List.map_cons, List.map_nil]); first | done | rfl) ?_
                refine (ptold (HCL.out.stay kk) (by omega)).mono ?_
                rintro e v1 ⟨sl, rfl, hrv1, K2⟩
                have kk := kk.then_ K2 (fun _ h => h.elim)
                clear K2
                refine ⟨_, rfl, ?_⟩
                refine hK.out _ _ (cell_kp c10 kk (fun h => h)) (fun hHeld => ?_)
                clear hK K
                refine norm_ (a' := ?_) ?_ ?_
                rotate_left
                · show Act.put _ (some 190) _ = _
                  simp only [Act.put, List.setIfInBounds_toArray, List.set_cons_zero, List.set_cons_succ]
                  rfl
                as_aux_lemma =>
                  refine one_ (i := 3) (N := (some 192)) #[true, true, true, true, false, false, false, false, false, false, false, false, false] rfl rfl (by kernel_rfl) (by decide) (fun K hK => ?_)
                  refine goes_ Try.func21 (by kernel_rfl) rfl #[sl, .slice Aw R.length nw] (by rfl) rfl rfl (by (try simp only [List.map_toArray, List.map_cons, List.map_nil]); first | done | rfl) ?_
                  refine (psame hrv1 (HRV.out.stay kk) (by omega)).mono ?_
                  rintro e v2 ⟨rfl, K2⟩
                  have kk := kk.then_ K2 (fun _ h => h.elim)
                  clear K2
                  rw [decide_eq_true rfl]
                  refine ⟨_, rfl, ?_⟩
                  refine hK.out _ _ (cell_kp c10 kk (fun h => h)) (fun hHeld => ?_)
                  clear hK K
                  refine norm_ (a' := ?_) ?_ ?_
                  rotate_left
                  · show Act.put _ (some 192) _ = _
                    simp only [Act.put, List.setIfInBounds_toArray, List.set_cons_zero, List.set_cons_succ]
                    rfl
                  as_aux_lemma =>
                    refine pure_ (i := 4) (N := (some 193)) (v := ?_) (a' := ?_) #[true, true, true, true, true, false, false, false, false, false, false, false, false] rfl rfl (by kernel_rfl) (fun _ _ _ h => h) (Or.inl ⟨by rfl, ?_⟩) ?_ ?_
                    rotate_left
                    · intro w'
                      go_simp
                      with_reducible rfl
                    rotate_left
                    · simp only [Act.put, List.setIfInBounds_toArray, List.set_cons_zero, List.set_cons_succ]
                      rfl
                    refine pure_ (i := 5) (N := (some 194)) (v := ?_) (a' := ?_) #[true, true, true, true, true, true, false, false, false, false, false, false, false] rfl rfl (by kernel_rfl) (fun _ _ _ h => h) (Or.inl ⟨by rfl, ?_⟩) ?_ ?_
                    rotate_left
                    · intro w'
                      go_simp
                      with_reducible rfl
                    rotate_left
                    · simp only [Act.put, List.setIfInBounds_toArray, List.set_cons_zero, List.set_cons_succ]
                      rfl
                    refine pure_ (i := 6) (N := (some 195)) (v := ?_) (a' := ?_) #[true, true, true, true, true, true, true, false, false, false, false, false, false] rfl rfl (by kernel_rfl) (fun _ _ _ h => h) (Or.inl ⟨by rfl, ?_⟩) ?_ ?_
                    rotate_left
                    · intro w'
                      go_simp
                      with_reducible rfl
                    rotate_left
                    · simp only [Act.put, List.setIfInBounds_toArray, List.set_cons_zero, List.set_cons_succ]
                      rfl
                    refine take_ (i := 7) (N := (some 196)) (v := ?_) (a' := ?_) #[true, true, true, true, true, true, true, true, false, false, false, false, false] rfl rfl (by kernel_rfl) (fun _ _ _ h => h) (Or.inl ⟨by rfl, ?_⟩) hHeld ?_ ?_
                    rotate_left
                    · intro w' s0
                      go_simp
                      with_reducible rfl
                    rotate_left
                    · simp only [Act.put, List.setIfInBounds_toArray, List.set_cons_zero, List.set_cons_succ]
                      rfl
                    refine pure_ (i := 8) (N := (some 197)) (v := ?_) (a' := ?_) #[true, true, true, true, true, true, true, true, true, false, false, false, false] rfl rfl (by kernel_rfl) (fun _ _ _ h => h) (Or.inl ⟨by rfl, ?_⟩) ?_ ?_
                    rotate_left
                    · intro w'
                      go_simp
                      with_reducible rfl
                    rotate_left
                    · simp only [Act.put, List.setIfInBounds_toArray, List.set_cons_zero, List.set_cons_succ]
                      rfl
                    refine pure_ (i := 9) (N := (some 198)) (v := ?_) (a' := ?_) #[true, true, true, true, true, true, true, true, true, true, false, false, false] rfl rfl (by kernel_rfl) (fun _ _ _ h => h) (Or.inl ⟨by rfl, ?_⟩) ?_ ?_
                    rotate_left
                    · intro w'
                      go_simp
                      with_reducible rfl
                    rotate_left
                    · simp only [Act.put, List.setIfInBounds_toArray, List.set_cons_zero, List.set_cons_succ]
                      rfl
                    refine pure_ (i := 10) (N := (some 199)) (v := ?_) (a' := ?_) #[true, true, true, true, true, true, true, true, true, true, true, false, false] rfl rfl (by kernel_rfl) (fun _ _ _ h => h) (Or.inl ⟨by rfl, ?_⟩) ?_ ?_
                    rotate_left
                    · intro w'
                      go_simp
                      with_reducible rfl
                    rotate_left
                    · simp only [Act.put, List.setIfInBounds_toArray, List.set_cons_zero, List.set_cons_succ]
                      rfl
                    refine pure_ (i := 11) (N := (some 200)) (v := ?_) (a' := ?_) #[true, true, true, true, true, true, true, true, true, true, true, true, false] rfl rfl (by kernel_rfl) (fun _ _ _ h => h) (Or.inl ⟨by rfl, ?_⟩) ?_ ?_
                    rotate_left
                    · intro w'
                      go_simp
                      with_reducible rfl
                    rotate_left
                    · simp only [Act.put, List.setIfInBounds_toArray, List.set_cons_zero, List.set_cons_succ]
                      rfl
                    have HB42 := Aside0.mk (blk_kp HB4W.out kk (fun h => h))
                    have z4 : v2.frozen? ⟨w.heap.size + 1, 0, none⟩ = false := blk_frozen HB42.out 0
                    have c4 : v2.cell? ⟨w.heap.size + 1, 0, none⟩ = some (.bool false) := (blk_cell HB42.out 0).trans rfl
                    refine last_ (i := 12) (N := none) #[true, true, true, true, true, true, true, true, true, true, true, true, true] rfl rfl (by kernel_rfl) (by decide) (fun K hK => ?_)
                    refine skip_ (w1 := ?_) (by rfl) rfl ?_ ?_
                    rotate_left
                    · go_simp
                      rfl
                    refine hK.out _ _ ?_
                    clear hK K
                    refine done_ (by kernel_rfl) ?_
                    refine NoPanic.normal ?_
                    go_wp2_with fail
                    have hkks := kk.size
                    have hd1v := (kk.keep D (by omega) (fun h => h)).trans HD1.out
                    have hd2v := (kk.keep D' (by omega) (fun h => h)).trans HD2.out
                    have hB4 : (v2.setCell ⟨w.heap.size + 1, 0, none⟩ (.bool true)).heap[w.heap.size + 1]? = some (.cells #[.bool true] 4 (0, 0)) := blk_put HB42.out 0 _ rfl
                    have hKD1 : (v2.setCell ⟨w.heap.size + 1, 0, none⟩ (.bool true)).heap[D]? = some (.deferred (some [])) := (KeepsOthers.setCell v2 _ _).same D _ hd1v rfl
                    have hKD2 : (v2.setCell ⟨w.heap.size + 1, 0, none⟩ (.bool true)).heap[D']? = some (.deferred (some [])) := (KeepsOthers.setCell v2 _ _).same D' _ hd2v rfl
                    have KF : Kp w (v2.setCell ⟨w.heap.size + 1, 0, none⟩ (.bool true)) (fun _ => False) := (HKW.out.then_ kk (fun _ h => h.elim)).then_ (Kp.setCell (Kp.refl v2 (fun k => k = w.heap.size + 1)) (by left; rfl) _) (fun k hk => .inr (by rw [hk]; omega))
                    clear c4 z4 HD1 HD2 HB4W HB42 hd1v hd2v
                    generalize v2.setCell ⟨w.heap.size + 1, 0, none⟩ (.bool true) = Wf at *
                    have hKD3 : (Wf.putObj D' (.deferred none)).heap[D]? = some (.deferred (some [])) := (World.putObj_heap_other (by omega)).trans hKD1
                    have hB4f : ((Wf.putObj D' (.deferred none)).putObj D (.deferred none)).heap[w.heap.size + 1]? = some (.cells #[.bool true] 4 (0, 0)) := (World.putObj_heap_other (by omega)).trans ((World.putObj_heap_other (by omega)).trans hB4)
                    have hcf : ((Wf.putObj D' (.deferred none)).putObj D (.deferred none)).cell? ⟨w.heap.size + 1, 0, none⟩ = some (.bool true) := (blk_cell hB4f 0).trans rfl
                    have KFF := Aside0.mk ((KF.then_ (kp_row (grownBy_putObj' Wf D' (.deferred none))) (fun k hk => by cases hk; exact .inr (by omega))).then_ (kp_row (grownBy_putObj' (Wf.putObj D' (.deferred none)) D (.deferred none))) (fun k hk => by cases hk; exact .inr (by omega)))
                    clear hB4 hB4f KF
                    refine ⟨by simp, .inl ⟨_, _, rfl, run_takeDeferred hKD2, ?_⟩⟩
                    refine ⟨by simp, .inl ⟨_, _, rfl, run_takeDeferred hKD3, ?_⟩⟩
                    refine ⟨.bool true, ?_, rfl, KFF.out⟩
                    have hres : Try.f4.results = #[ResultVar.cell 6 4] := rfl
                    simp [results, hres, go_sem, hcf]
theorem law_row (A : Option Addr) (len cap : Nat) (T : Nat → Rec) (A2 : Option Addr) (len2 cap2 : Nat) (T2 : Nat → Rec) (stop : Int) (w : World) (hlc : len ≤ cap) (hcm : cap ≤ maxLen)
    (hT : ∀ i, i < len → ∃ a, A = some a ∧ w.cell? (a.add (i * 4)) = some (.int .i64 (T i).kind) ∧ w.cell? (a.add (i * 4 + 1)) = some (.bool (T i).second) ∧ w.cell? (a.add (i * 4 + 2)) = some (.int .i64 (T i).lo) ∧ w.cell? (a.add (i * 4 + 3)) = some (.int .i64 (T i).hi) ∧ (Lit.int .i64 (T i).kind).wf = true ∧ (Lit.int .i64 (T i).lo).wf = true ∧ (Lit.int .i64 (T i).hi).wf = true)
    (hlc2 : len2 ≤ cap2) (hcm2 : cap2 ≤ maxLen)
    (hT2 : ∀ i, i < len2 → ∃ a, A2 = some a ∧ w.cell? (a.add (i * 4)) = some (.int .i64 (T2 i).kind) ∧ w.cell? (a.add (i * 4 + 1)) = some (.bool (T2 i).second) ∧ w.cell? (a.add (i * 4 + 2)) = some (.int .i64 (T2 i).lo) ∧ w.cell? (a.add (i * 4 + 3)) = some (.int .i64 (T2 i).hi) ∧ (Lit.int .i64 (T2 i).kind).wf = true ∧ (Lit.int .i64 (T2 i).lo).wf = true ∧ (Lit.int .i64 (T2 i).hi).wf = true) (_ : (Lit.int .i64 stop).wf = true) :
    Calls Try.prog 4 #[.slice A len cap, .slice A2 len2 cap2, .int .i64 stop] w fun e w' => e = .returned (.bool true) ∧ Below w.heap.size w w' := by
  unfold maxLen at hcm hcm2
  refine (own_calls A len cap T A2 len2 cap2 T2 stop w (fun i hi => ?_) (fun i hi => ?_) (by omega) (by omega)).mono fun _ _ h => ⟨h.1, h.2.to_below⟩
  · obtain ⟨a, h1, h2, h3, h4, h5, _⟩ := hT i hi
    exact ⟨a, h1, h2, h3, h4, h5⟩
  · obtain ⟨a, h1, h2, h3, h4, h5, _⟩ := hT2 i hi
    exact ⟨a, h1, h2, h3, h4, h5⟩
end Go.Proofs.Ytbaciaolhfmfkaa.Va
