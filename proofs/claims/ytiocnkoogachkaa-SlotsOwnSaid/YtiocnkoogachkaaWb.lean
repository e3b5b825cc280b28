/- This text proves the law SlotsOwn as a walk: an iterator gives what the table had when it was asked for, each time. -/
import Derived.Test.YtiocnkoogachkaaVl
namespace Go.Proofs.Ytiocnkoogachkaa.Wa
open Go.RowKit Go.Shelf Go.Proofs.YtiocnkoogachkaaW.PrintWords Go.Proofs.YtiocnkoogachkaaW.PrintLast Go.Proofs.Ytiocnkoogachkaa.Mp Go.Proofs.Ytiocnkoogachkaa.Hp Go.Proofs.Ytiocnkoogachkaa.Tg Go.Proofs.Ytiocnkoogachkaa.Rs Go.Proofs.Ytiocnkoogachkaa.PSlotsPlays Go.Proofs.Ytiocnkoogachkaa.Ui Go.Proofs.Ytiocnkoogachkaa.Us Go.Proofs.Ytiocnkoogachkaa.Vp Go.Proofs.Ytiocnkoogachkaa.Sw
set_option linter.unusedVariables false
set_option linter.unusedSimpArgs false
attribute [local go_sem] Oper.semAt_some
theorem rl_bound : ∀ (n : Nat) (Ps : List (It Int Bool)) (y : S47), y ∈ rl n Ps → (n : Int) + 1 ≤ y.f0 ∧ y.f0 ≤ (n : Int) + Ps.length
  | n, [], y, h => by cases h
  | n, p :: t, y, h => by
    rw [rl] at h
    have ih := rl_bound (n + 1) t y
    rw [List.length_cons]
    split at h
    · rcases List.mem_cons.1 h with rfl | h
      · simp only; omega
      · have := ih h; omega
    · have := ih h; omega
section
variable {w0 w w2 : World} {tb hb pb m b : Nat} {Ps : List (It Int Bool)} {held : Int} {S : Nat → Prop}
/-- A table's state, its things untold. -/
def Any (w0 w : World) (tb hb pb m b : Nat) (S : Nat → Prop) : Prop := ∃ (Ps : List (It Int Bool)) (held : Int), St Ti.PF w0 w tb hb pb Ti.LV Ti.Z m Ps b held S
theorem any_drop (h : Any w0 w tb hb pb m b S) (hb1 : b < 1000000) (i : Int) : Calls Try.prog 10 #[.pointer (some ⟨tb, 0, none⟩), .int .i64 i] w fun e w' => ∃ v, e = .returned v ∧ ∃ S2, Any w0 w' tb hb pb m (b + 1) S2 ∧ Step w w' S S2 := by
  obtain ⟨Ps, held, h⟩ := h
  rcases inRange Ps i with ⟨j, p, rfl, hp⟩ | hi
  · cases hr : p.rank with
    | true =>
      refine (Ti.drop_ok h hp hr hb1).mono ?_
      rintro e w' ⟨rfl, S2, q1, q2⟩
      exact ⟨_, rfl, S2, ⟨_, _, q1⟩, q2⟩
    | false =>
      refine (Ti.drop_no h (.inr ⟨j, p, rfl, hp, hr⟩)).mono ?_
      rintro e w' ⟨rfl, S2, q1, q2⟩
      exact ⟨_, rfl, S2, ⟨_, _, st_b q1 (by omega)⟩, q2⟩
  · refine (Ti.drop_no h (.inl hi)).mono ?_
    rintro e w' ⟨rfl, S2, q1, q2⟩
    exact ⟨_, rfl, S2, ⟨_, _, st_b q1 (by omega)⟩, q2⟩
theorem any_put (h : Any w0 w tb hb pb m b S) (hb1 : b < 1000000) (x : Int) : Calls Try.prog 9 #[.pointer (some ⟨tb, 0, none⟩), .int .i64 x] w fun e w' => ∃ v, e = .returned v ∧ ∃ S2, Any w0 w' tb hb pb m b S2 ∧ Step w w' S S2 := by
  obtain ⟨Ps, held, h⟩ := h
  rcases free_cases Ps (st_held h).2 with ⟨j, h1, h2, h3, _⟩ | ⟨h1, _⟩
  · refine (Ti.put_ok h h1 h2 h3 hb1 x).mono ?_
    rintro e w' ⟨rfl, S2, q1, q2⟩
    exact ⟨_, rfl, S2, ⟨_, _, q1⟩, q2⟩
  · refine (Ti.put_no h h1 x).mono ?_
    rintro e w' ⟨rfl, S2, q1, q2⟩
    exact ⟨_, rfl, S2, ⟨_, _, q1⟩, q2⟩
theorem any_set (h : Any w0 w tb hb pb m b S) (i x : Int) : Calls Try.prog 20 #[.pointer (some ⟨tb, 0, none⟩), .int .i64 i, .int .i64 x] w fun e w' => ∃ v, e = .returned v ∧ ∃ S2, Any w0 w' tb hb pb m b S2 ∧ Step w w' S S2 := by
  obtain ⟨Ps, held, h⟩ := h
  rcases inRange Ps i with ⟨j, p, rfl, hp⟩ | hi
  · cases hr : p.rank with
    | true =>
      refine (Ti.set_ok h hp hr x).mono ?_
      rintro e w' ⟨rfl, S2, q1, q2⟩
      exact ⟨_, rfl, S2, ⟨_, _, q1⟩, q2⟩
    | false =>
      refine (Ti.set_free h hp hr x).mono ?_
      rintro e w' ⟨rfl, rfl⟩
      exact ⟨_, rfl, S, ⟨_, _, h⟩, Step.quiet (Kp.refl _ _)⟩
  · refine (Ti.set_out h hi x).mono ?_
    rintro e w' ⟨rfl, rfl⟩
    exact ⟨_, rfl, S, ⟨_, _, h⟩, Step.quiet (Kp.refl _ _)⟩
theorem any_keep {Sx : Nat → Prop} (h : Any w0 w tb hb pb m b S) (K : Kp w w2 Sx) (h1 : ∀ k, Sx k → ¬ S k) (h2 : ∀ k, Sx k → w0.heap.size ≤ k) : Any w0 w2 tb hb pb m b S := by
  obtain ⟨Ps, held, h⟩ := h
  exact ⟨Ps, held, st_keep h K h1 h2⟩
theorem any_lt (h : Any w0 w tb hb pb m b S) : ∀ k, S k → k < w.heap.size := by
  obtain ⟨Ps, held, h⟩ := h
  exact st_lt h
theorem any_kept (h : Any w0 w tb hb pb m b S) : Kp w0 w (fun _ => False) := by
  obtain ⟨Ps, held, h⟩ := h
  exact h.kept
theorem any_cells (h : Any w0 w tb hb pb m b S) {k : Nat} (hk : S k) : k = pb ∨ ∃ cells t, w.heap[k]? = some (.cells cells t (0, 0)) := by
  obtain ⟨Ps, held, h⟩ := h
  obtain ⟨sv, pv, L, c, q1, q2, q3, q4, rfl⟩ := h.ex
  rcases hk with rfl | (rfl | rfl | hk) | hk
  · exact .inr ⟨_, _, q1.head⟩
  · exact .inr ⟨_, _, q1.heap.head⟩
  · exact .inl rfl
  · rcases q1.heap.own.2 with ⟨hv, _⟩ | ⟨g, cap, cur, hv, _, hg, _⟩
    · rw [hv] at hk; cases hk
    · rw [hv] at hk
      cases hk
      exact .inr ⟨_, _, hg⟩
  · rcases q1.row.2 with ⟨hv, _⟩ | ⟨g, cap, cur, hv, _, hg, _⟩
    · rw [hv] at hk; cases hk
    · rw [hv] at hk
      cases hk
      exact .inr ⟨_, _, hg⟩
/-- What a table's call keeps, as a round wants it. -/
theorem any_from {B : Nat} {S2 : Nat → Prop} (h : Any w0 w tb hb pb m b S) (T : Step w w2 S S2) (hpb : pb < B) : KeepsFrom B w w2 := ⟨T.kp.size, fun k o hB hk ho => by
  refine (T.kp.keep k (Array.getElem?_eq_some_iff.1 hk).1 (fun hs => ?_)).trans hk
  rcases any_cells h hs with rfl | ⟨cells, t, hc⟩
  · omega
  · rw [hc] at hk
    cases hk
    cases ho⟩
/-- The round's state: so many have come. -/
structure Jn (w0 w W : World) (tb hb pb m b0 bn : Nat) (S0 : Nat → Prop) (c : Nat) : Prop where
  nb : W.heap[bn]? = some (.cells #[.int .i64 (c : Int)] 3 (0, 0))
  any : ∃ S, Any w0 W tb hb pb m (b0 + 3 * c) S ∧ ∀ k, S k → S0 k ∨ w.heap.size ≤ k
  kp : Kp w W (fun k => (w.heap.size ≤ k ∨ k = bn) ∨ S0 k)
theorem jn_own {bn b0 : Nat} {S0 : Nat → Prop} {W W' : World} {row : Option Nat} {c : Nat} (h : Jn w0 w W tb hb pb m b0 bn S0 c) (hbn : bn < w.heap.size) (hpb : pb < w.heap.size) (hw : w0.heap.size ≤ w.heap.size) (hg : W.grownBy W' row) (hr : ∀ r, row = some r → w.heap.size ≤ r ∧ ∃ o : Obj, W.heap[r]? = some o ∧ o.isCells = false) : Jn w0 w W' tb hb pb m b0 bn S0 c := by
  obtain ⟨S, h1, h2⟩ := h.any
  have K := Ti.kp_grown hg
  refine ⟨blk_kp h.nb K (fun e => by have := (hr _ e).1; omega), ⟨S, any_keep h1 K (fun k hk hs => ?_) (fun k hk => by have := (hr k hk).1; omega), h2⟩, h.kp.then_ K (fun k hk => .inl (.inl (.inl (hr k hk).1)))⟩
  obtain ⟨h3, o, ho, hc⟩ := hr k hk
  rcases any_cells h1 hs with rfl | ⟨cells, t, hcc⟩
  · omega
  · rw [hcc] at ho
    cases ho
    cases hc
end
/-- The law's state in its script: table and reference beside each other, and the two boxes. -/
def Lo (wa wr : World) (tb b5 bx m k : Nat) : Prop := ∃ (Ps : List (It Int Bool)) (held : Int) (S : Nat → Prop) (M : List S47) (A : Option Addr) (c : Nat), Pq wa wr tb (wa.heap.size + 1) wa.heap.size m Ps (m + k) held S (.slice A M.length c) M ∧ wr.heap[bx]? = some (.cells #[.int .i64 m, .slice A M.length c] 34 (0, 0)) ∧ ¬ S bx ∧ wa.heap.size ≤ bx ∧ wr.heap[b5]? = some (.cells #[.pointer (some ⟨tb, 0, none⟩)] 23 (0, 0)) ∧ ¬ S b5 ∧ wa.heap.size ≤ b5 ∧ b5 ≠ bx
/-- What the iterator's closure holds. -/
def AlQ (wc W : World) (Bs : Nat) (cv : Value) (Ps : List (It Int Bool)) : Prop := W.heap[Bs]? = some (.cells #[cv] 56 (0, 0)) ∧ wc.heap.size ≤ Bs ∧ ∃ base, wc.heap.size ≤ base ∧ W.ownsRow base 62 2 cv Ps.length (flat Ti.PF Ps)
/-- The reference's list of what the iterator gives. -/
def WnQ (wc W : World) (v : Value) (Ps : List (It Int Bool)) : Prop := Kd.R k47 47 W wc.heap.size (fun _ => True) v (rl 0 Ps)
/-- The box of that list. -/
def BnQ (wc W : World) (b9 : Nat) (u : Value) : Prop := W.heap[b9]? = some (.cells #[u] 32 (0, 0)) ∧ wc.heap.size ≤ b9
section
variable {wc W W2 : World} {Bs b9 : Nat} {cv u v : Value} {Ps : List (It Int Bool)} {Sx : Nat → Prop}
theorem AlQ.keep (h : AlQ wc W Bs cv Ps) (K : Kp W W2 Sx) (hS : ∀ k, wc.heap.size ≤ k → k < W.heap.size → ¬ Sx k) : AlQ wc W2 Bs cv Ps := by
  obtain ⟨h1, h2, base, h3, h4⟩ := h
  exact ⟨blk_kp h1 K (hS _ h2 (blk_lt h1)), h2, base, h3, row_kp' h4 K (fun k hk => hS k (Nat.le_trans h3 (own_base h4 k hk)) (own_lt h4 k hk))⟩
theorem AlQ.stay (h : AlQ wc W Bs cv Ps) (K : Kp W W2 (fun _ => False)) : AlQ wc W2 Bs cv Ps := h.keep K (fun _ _ _ h => h)
theorem WnQ.keep (h : WnQ wc W v Ps) (K : Kp W W2 Sx) (hS : ∀ k, wc.heap.size ≤ k → k < W.heap.size → ¬ Sx k) : WnQ wc W2 v Ps := row_kept h K (fun k hk => hS k hk.1 (by obtain ⟨_, cc, h2⟩ := hk; exact blk_lt h2))
theorem WnQ.stay (h : WnQ wc W v Ps) (K : Kp W W2 (fun _ => False)) : WnQ wc W2 v Ps := h.keep K (fun _ _ _ h => h)
theorem BnQ.keep (h : BnQ wc W b9 u) (K : Kp W W2 Sx) (hS : ∀ k, wc.heap.size ≤ k → k < W.heap.size → ¬ Sx k) : BnQ wc W2 b9 u := ⟨blk_kp h.1 K (hS _ h.2 (blk_lt h.1)), h.2⟩
theorem BnQ.stay (h : BnQ wc W b9 u) (K : Kp W W2 (fun _ => False)) : BnQ wc W2 b9 u := h.keep K (fun _ _ _ h => h)
theorem AlQ.put {u2 : Value} (h : AlQ wc W Bs cv Ps) (b : BnQ wc W b9 u) : AlQ wc (W.setCell ⟨b9, 0, none⟩ u2) Bs cv Ps := by
  obtain ⟨h1, h2, base, h3, h4⟩ := h
  have K : Kp W (W.setCell ⟨b9, 0, none⟩ u2) (fun q => q = b9) := Kp.setCell (Kp.refl _ _) (by left; rfl) _
  refine ⟨blk_kp h1 K (fun e => by rw [e, b.1] at h1; cases h1), h2, base, h3, row_kp' h4 K (fun k hk e => ?_)⟩
  rcases h4.2 with ⟨hv, _⟩ | ⟨g, cap, cur, hv, _, hg, _⟩
  · rw [hv] at hk; cases hk
  · rw [hv] at hk
    cases hk
    have e : g = b9 := e
    rw [e, b.1] at hg
    cases hg
theorem WnQ.put {u2 : Value} (h : WnQ wc W v Ps) (b : BnQ wc W b9 u) : WnQ wc (W.setCell ⟨b9, 0, none⟩ u2) v Ps := by
  have K : Kp W (W.setCell ⟨b9, 0, none⟩ u2) (fun q => q = b9) := Kp.setCell (Kp.refl _ _) (by left; rfl) _
  refine row_kept h K (fun k hk e => ?_)
  obtain ⟨_, cc, h2⟩ := hk
  rw [e, b.1] at h2
  cases h2
theorem BnQ.put (b : BnQ wc W b9 u) (u2 : Value) : BnQ wc (W.setCell ⟨b9, 0, none⟩ u2) b9 u2 := ⟨blk_put b.1 0 _ rfl, b.2⟩
end
/-- The state between two turns. -/
structure Rn (wa wq wN W : World) (tb bt m : Nat) (S0 : Nat → Prop) (t : Nat) : Prop where
  box : W.heap[bt]? = some (.cells #[.int .i64 (t : Int)] 3 (0, 0))
  lo : wq.heap.size ≤ bt
  any : ∃ b S, b ≤ 70000 + 200000 * t ∧ Any wa W tb (wa.heap.size + 1) wa.heap.size m b S ∧ ¬ S bt ∧ ∀ k, S k → S0 k ∨ wN.heap.size ≤ k
  kp : Kp wN W (fun k => wN.heap.size ≤ k ∨ S0 k)
/-- The deferred blocks that the turns laid. -/
def Dn (wN W : World) (ds : List Deferred) (t : Nat) : Prop :=
  (t = 0 ∧ ds = []) ∨ (t = 1 ∧ ∃ D, ds = [{ target := .collected D, args := #[] }] ∧ W.heap[D]? = some (.deferred (some [])) ∧ wN.heap.size ≤ D) ∨
  (t = 2 ∧ ∃ D D', ds = [{ target := .collected D', args := #[] }, { target := .collected D, args := #[] }] ∧ D < D' ∧ W.heap[D]? = some (.deferred (some [])) ∧ W.heap[D']? = some (.deferred (some [])) ∧ wN.heap.size ≤ D)
theorem loop_two {P : Program} {Q : Exit → Act → World → Prop} {a : Act} {w : World} {c : Code} (R : Nat → Act → World → Prop) (h0 : R 0 a w)
    (h : ∀ t a w, t ≤ 2 → R t a w → ∀ K : Act → World → Prop, (∀ a' w', t < 2 → R (t + 1) a' w' → K a' w') → c.wp P (Exit.then K Q) a w) : (Code.loop c).wp P Q a w :=
  wp_loop_rounds 3 (h 0 a w (by omega) h0 _ fun a1 w1 _ h1 => h 1 a1 w1 (by omega) h1 _ fun a2 w2 _ h2 => h 2 a2 w2 (by omega) h2 _ fun _ _ h3 _ => by omega)
theorem wp_cutD {P : Program} {s : Code} {K : Act → World → Prop} {Q' : Exit → Act → World → Prop} {T : Array Value} {ds : List Deferred} {w : World} (R : List Deferred → World → Prop)
    (rest : ∀ ds' w', R ds' w' → K { tmps := T, defers := ds' } w')
    (first : ∀ K' : Act → World → Prop, (∀ ds' w', R ds' w' → K' { tmps := T, defers := ds' } w') → s.wp P (Exit.then K' Q') { tmps := T, defers := ds } w) : s.wp P (Exit.then K Q') { tmps := T, defers := ds } w := first K rest
theorem any_b {w0 w : World} {tb hb pb m b b2 : Nat} {S : Nat → Prop} (h : Any w0 w tb hb pb m b S) (hbb : b ≤ b2) : Any w0 w tb hb pb m b2 S := by
  obtain ⟨Ps, held, h⟩ := h
  exact ⟨Ps, held, st_b h hbb⟩
section
variable {wa wq wN W w5 W' Wx : World} {tb bt bn m b c t D : Nat} {S S' : Nat → Prop} {ds : List Deferred}
theorem turn_next (hkp : Kp wN w5 (fun q => wN.heap.size ≤ q ∨ S q)) (hS' : ∀ k, S' k → S k ∨ wN.heap.size ≤ k) (hJ : Jn wa w5 W' tb (wa.heap.size + 1) wa.heap.size m b bn S' c) (hNW : wN.heap.size ≤ bn) (hW5 : bn < w5.heap.size)
    (hbb : b ≤ 70000 + 200000 * t) (hc : c ≤ 65536) (ht : t < 2) (h1 : Kp W' Wx (fun q => q = W'.heap.size)) (h2 : Wx.heap[W'.heap.size]? = some (.cells #[.int .i64 ((t : Int) + 1)] 3 (0, 0))) (hqN : wq.heap.size ≤ wN.heap.size) (haq : wa.heap.size ≤ wq.heap.size) :
    Rn wa wq wN Wx tb W'.heap.size m S (t + 1) := by
  obtain ⟨S3, h3, h4⟩ := hJ.any
  have hs := hJ.kp.size
  refine ⟨h2, by omega, ⟨b + 3 * c, S3, by omega, any_keep h3 h1 (fun q hq hs => by have := any_lt h3 q hs; omega) (fun q hq => by omega), fun hs => by have := any_lt h3 _ hs; omega, fun q hq => ?_⟩, (hkp.then_ hJ.kp (fun q hq => ?_)).then_ h1 (fun q hq => .inl (.inl (by omega)))⟩
  · rcases h4 q hq with h | h
    · exact hS' q h
    · exact .inr (by omega)
  · rcases hq with (h | rfl) | h
    · exact .inr (by omega)
    · exact .inr (by omega)
    · exact (hS' q h).elim (fun h => .inl (.inr h)) .inr
theorem dn_next (hD : Dn wN W ds t) (k5 : Kp W w5 (fun _ => False)) (hA : Any wa w5 tb (wa.heap.size + 1) wa.heap.size m b S') (hbnc : w5.heap[bn]? ≠ some (.deferred (some []))) (hJ : Jn wa w5 W' tb (wa.heap.size + 1) wa.heap.size m b bn S' c) (hDD : W'.heap[D]? = some (.deferred (some []))) (hNW : wN.heap.size ≤ bn) (hW5 : bn < w5.heap.size) (hD5 : w5.heap.size ≤ D) (haN : wa.heap.size < wN.heap.size) (ht : t < 2) (h1 : Kp W' Wx (fun q => q = W'.heap.size)) :
    Dn wN Wx ({ target := .collected D, args := #[] } :: ds) (t + 1) := by
  have hlt : D < W'.heap.size := (Array.getElem?_eq_some_iff.1 hDD).1
  have hx : Wx.heap[D]? = some (.deferred (some [])) := (h1.keep D hlt (by omega)).trans hDD
  rcases hD with ⟨rfl, rfl⟩ | ⟨rfl, D0, rfl, h2, h3⟩ | ⟨rfl, _⟩
  · exact .inr (.inl ⟨rfl, D, rfl, hx, by omega⟩)
  · have hl0 : D0 < W.heap.size := (Array.getElem?_eq_some_iff.1 h2).1
    have h4 := (k5.keep D0 hl0 (fun h => h)).trans h2
    have hl5 : D0 < w5.heap.size := (Array.getElem?_eq_some_iff.1 h4).1
    have h5 := (hJ.kp.keep D0 hl5 (fun h => by
      rcases h with (h | rfl) | h
      · omega
      · exact hbnc h4
      · rcases any_cells hA h with rfl | ⟨cells, t, hc⟩
        · omega
        · rw [hc] at h4
          cases h4)).trans h4
    have h6 := (h1.keep D0 (Array.getElem?_eq_some_iff.1 h5).1 (by omega)).trans h5
    exact .inr (.inr ⟨rfl, D0, D, rfl, by omega, h6, hx, h3⟩)
  · omega
end
/-- Within a round: so many calls of the table have been. -/
structure Jt (w0 w W W' : World) (tb hb pb m b0 bn : Nat) (S0 : Nat → Prop) (c j : Nat) : Prop where
  from_ : KeepsFrom w.heap.size W W'
  kp : Kp W W' (fun k => (w.heap.size ≤ k ∨ k = bn) ∨ S0 k)
  any : ∃ S, Any w0 W' tb hb pb m (b0 + 3 * c + j) S ∧ ∀ k, S k → S0 k ∨ w.heap.size ≤ k
  nb : W'.heap[bn]? = some (.cells #[.int .i64 ((c : Int) + 1)] 3 (0, 0))
section
variable {wa w W W' W2 : World} {tb hb pb m b0 bn c j b1 b2 : Nat} {S0 S S2 : Nat → Prop}
theorem jt_start (h : Jn wa w W tb hb pb m b0 bn S0 c) (hbn : bn < w.heap.size) (hw : wa.heap.size ≤ bn) (hS : ¬ S0 bn) : Jt wa w W (W.setCell ⟨bn, 0, none⟩ (.int .i64 ((c : Int) + 1))) tb hb pb m b0 bn S0 c 0 := by
  have K : Kp W (W.setCell ⟨bn, 0, none⟩ (.int .i64 ((c : Int) + 1))) (fun k => k = bn) := Kp.setCell (Kp.refl _ _) (by left; rfl) _
  obtain ⟨S, h1, h2⟩ := h.any
  exact ⟨(KeepsOthers.setCell _ _ _).from _, K.mono (fun k hk => .inl (.inr hk)), ⟨S, any_keep h1 K (fun k hk hs => by
    rw [hk] at hs
    rcases h2 _ hs with h | h
    · exact hS h
    · omega) (fun k hk => by omega), h2⟩, blk_put h.nb 0 _ rfl⟩
theorem jt_step (h : Jt wa w W W' tb hb pb m b0 bn S0 c j) (hA : Any wa W' tb hb pb m b1 S) (hS : ∀ k, S k → S0 k ∨ w.heap.size ≤ k) (hpb : pb < w.heap.size) (T : Step W' W2 S S2) (hA2 : Any wa W2 tb hb pb m b2 S2) (hbb : b2 ≤ b0 + 3 * c + (j + 1)) (hbn : ¬ S bn) (hbn2 : bn < w.heap.size) (hlt : w.heap.size ≤ W'.heap.size) : Jt wa w W W2 tb hb pb m b0 bn S0 c (j + 1) :=
  ⟨h.from_.trans (any_from hA T hpb), h.kp.then_ T.kp (fun k hk => .inl ((hS k hk).elim .inr (fun h => .inl (.inl h)))), ⟨S2, any_b hA2 hbb, fun k hk => (T.foot k hk).elim (hS k) (fun h => .inr (by omega))⟩, blk_kp h.nb T.kp hbn⟩
theorem jt_done (hJ : Jn wa w W tb hb pb m b0 bn S0 c) (h : Jt wa w W W' tb hb pb m b0 bn S0 c j) (hj : j ≤ 3) : Jn wa w W' tb hb pb m b0 bn S0 (c + 1) := by
  obtain ⟨S, h1, h2⟩ := h.any
  exact ⟨h.nb, ⟨S, any_b h1 (by omega), h2⟩, hJ.kp.then_ h.kp (fun k hk => .inl hk)⟩
end
abbrev sx : ByteArray := ⟨#[120]⟩
theorem lo_stay {wa wr w2 : World} {tb b5 bx m k : Nat} (h : Lo wa wr tb b5 bx m k) (K : Kp wr w2 (fun _ => False)) : Lo wa w2 tb b5 bx m k := by
  obtain ⟨Ps, held, S, M, A, c, hP, hb, hns, hbl, h5, hn5, hl5, hne⟩ := h
  exact ⟨Ps, held, S, M, A, c, hP.stay K, blk_kp hb K (fun h => h), hns, hbl, blk_kp h5 K (fun h => h), hn5, hl5, hne⟩
set_option maxHeartbeats 8000000 in
set_option maxRecDepth 100000 in
theorem own_calls (A : Option Addr) (len cap : Nat) (T : Nat → Int × Int × Int) (stop : Int) (w : World) (hl : len ≤ cap) (hm : cap ≤ maxLen) (hT : ∀ i, i < len → ∃ a, A = some a ∧ w.cell? (a.add (i * 3)) = some (.int .i64 (T i).1) ∧ w.cell? (a.add (i * 3 + 1)) = some (.int .i64 (T i).2.1) ∧ w.cell? (a.add (i * 3 + 2)) = some (.int .i64 (T i).2.2)) :
    Calls Try.prog 6 #[.slice A len cap, .int .i64 stop] w fun e w' => e = .returned (.bool true) ∧ Kp w w' (fun _ => False) := by
  have hlen : len ≤ 9223372036854775807 := by unfold maxLen at hm; omega
  have HT := Aside0.mk hT
  clear hT hl hm
  obtain ⟨m, hm⟩ : ∃ m, Ti.clamp 9 = m := ⟨_, rfl⟩
  have hm6 : m ≤ 65536 := by rw [← hm]; exact Ti.clamp_le 9
  have HM := Aside0.mk hm
  clear hm
  refine (callsIn_wide (n := 9)).1 ?_
  refine callsIn_of_wp_marks Try.func6 rfl trivial ?_ rfl
  simp only [Try.ntmps6, List.size_toArray, List.length_cons, List.length_nil, Nat.reduceAdd, Nat.reduceSub, Array.replicate_succ, Array.replicate_zero, List.push_toArray, List.append_toArray, List.nil_append, List.cons_append]
  refine wpIn_wide.2 ?_
  go_upto_region 1 with (fail)
  obtain ⟨wa, hwa⟩ : ∃ wa, (w.alloc (.cells #[.int .i64 stop] 3)).alloc (.cells #[.bool false] 4) = wa := ⟨_, rfl⟩
  have ka : Kp w wa (fun _ => False) := by rw [← hwa]; exact ((Kp.refl w _).alloc _).alloc _
  have b4 : wa.heap[w.heap.size + 1]? = some (.cells #[.bool false] 4 (0, 0)) := by
    rw [← hwa]
    have := heap_alloc_new (w.alloc (.cells #[.int .i64 stop] 3)) (.cells #[.bool false] 4)
    rwa [World.size_alloc] at this
  have b3 : wa.heap[w.heap.size]? = some (.cells #[.int .i64 stop] 3 (0, 0)) := by
    rw [← hwa]
    exact blk_kp (heap_alloc_new w (.cells #[.int .i64 stop] 3)) ((Kp.refl _ (fun _ => False)).alloc _) (fun h => h)
  rw [hwa]
  clear hwa
  have hws : w.heap.size + 1 < wa.heap.size := blk_lt b4
  have B3 := Aside0.mk b3
  have B4 := Aside0.mk b4
  have KA := Aside0.mk ka
  clear b3 b4 ka
  go_wp2_with fail
  refine (Ti.new_calls 9 wa).mono ?_
  rintro e w1 ⟨tb, S1, rfl, h1⟩
  rw [HM.out] at h1
  have H1 := Aside0.mk h1
  clear h1
  go_wp2_with fail
  refine (brambleref04_New.calls 9 (m : Int) [] w1 (by unfold brambleref04_New.f; rw [clamp_mn, HM.out])).mono ?_
  rintro e w2 ⟨v, rfl, hR, hB⟩
  obtain ⟨A2, c2, rfl⟩ := Kd.R_slice hR
  have K2 : Kp w1 w2 (fun _ => False) := Kp.of_below hB _
  have hP2 : Pq wa w2 tb (wa.heap.size + 1) wa.heap.size m [] m 0 S1 (.slice A2 ([] : List S47).length c2) [] := ⟨st_stay H1.out K2, Kd.R_lower hR H1.out.kept.size, RM.nil, rfl⟩
  have HP2 := Aside0.mk hP2
  clear hR hB K2 hP2 H1
  go_upto_region 2 with (fail)
  obtain ⟨w3, hw3⟩ : ∃ w3, (w2.alloc (.cells #[.pointer (some ⟨tb, 0, none⟩)] 23)).alloc (.cells #[.int .i64 m, .slice A2 0 c2] 34) = w3 := ⟨_, rfl⟩
  have HL0 : Aside0 (Lo wa w3 tb w2.heap.size (w2.heap.size + 1) m 0) := ⟨by
    have hsz := HP2.out.st.kept.size
    have hlt := st_lt HP2.out.st
    have ka : Kp w2 w3 (fun _ => False) := by rw [← hw3]; exact ((Kp.refl _ _).alloc _).alloc _
    have hbx := heap_alloc_new (w2.alloc (.cells #[.pointer (some ⟨tb, 0, none⟩)] 23)) (.cells #[.int .i64 m, .slice A2 0 c2] 34)
    rw [World.size_alloc, hw3] at hbx
    have hb5 : w3.heap[w2.heap.size]? = some (.cells #[.pointer (some ⟨tb, 0, none⟩)] 23 (0, 0)) := by
      rw [← hw3]
      exact blk_kp (heap_alloc_new w2 (.cells #[.pointer (some ⟨tb, 0, none⟩)] 23)) ((Kp.refl _ (fun _ => False)).alloc _) (fun h => h)
    exact ⟨[], 0, S1, [], A2, c2, HP2.out.stay ka, hbx, fun hs => by have := hlt _ hs; omega, by omega, hb5, fun hs => by have := hlt _ hs; omega, hsz, by omega⟩⟩
  rw [hw3]
  clear hw3 HP2
  generalize w2.heap.size + 1 = bx at *
  generalize w2.heap.size = b5 at *
  go_wp2_with fail
  refine (awake_calls w3).mono ?_
  rintro e w4 ⟨rfl, K4⟩
  have HL1 : Aside0 (Lo wa w4 tb b5 bx m 0) := ⟨lo_stay HL0.out K4⟩
  have c5 : w4.cell? ⟨b5, 0, none⟩ = some (.pointer (some ⟨tb, 0, none⟩)) := by
    obtain ⟨_, _, _, _, _, _, _, _, _, _, h5, _⟩ := HL1.out
    exact (blk_cell h5 0).trans rfl
  clear HL0 K4
  go_upto_block 0 with (fail)
  clear c5
  go_cut [] from 17 (fun wx => ∃ k : Nat, k ≤ 120 ∧ Lo wa wx tb b5 bx m k)
  case first =>
    go_wp2_with fail
    go_loopw [7] (fun kv wr => ∃ k : Nat, k ≤ len ∧ k ≤ 120 ∧ kv = .int .i64 k ∧ Aside0 (Lo wa wr tb b5 bx m k)) (fun kv _ => len - (intOf kv).toNat)
    case atStart => exact ⟨0, Nat.zero_le _, Nat.zero_le _, rfl, HL1⟩
    case round =>
      clear HL1
      obtain ⟨k, hk1, hk2, rfl, HL⟩ := hrel
      by_cases hlt : k < len
      · have t2 : decide ((k : Int) < (len : Int)) = true := decide_eq_true (by omega)
        by_cases hlt2 : k < 120
        · have t3 : decide ((k : Int) < 120) = true := decide_eq_true (by omega)
          obtain ⟨Ps, held, S, M, A3, c3, hP, hb, hns, hbl, h5, hn5, hl5, hne⟩ := HL.out
          obtain ⟨ad, rfl, s0, s1, s2⟩ := HT.out k hlt
          rw [addn _ _ 1 (by omega)] at s1
          rw [addn _ _ 2 (by omega)] at s2
          have kw0 := KA.out.then_ hP.st.kept (fun _ h => h.elim)
          have d0 := cell_kp s0 kw0 (fun h => h)
          have d1 := cell_kp s1 kw0 (fun h => h)
          have d2 := cell_kp s2 kw0 (fun h => h)
          have b0 : wr.cell? ⟨bx, 0, none⟩ = some (.int .i64 m) := (blk_cell hb 0).trans rfl
          have b1 : wr.cell? ⟨bx, 1, none⟩ = some (.slice A3 M.length c3) := (blk_cell hb 1).trans rfl
          have p0 : wr.cell? ⟨b5, 0, none⟩ = some (.pointer (some ⟨tb, 0, none⟩)) := (blk_cell h5 0).trans rfl
          have HP := Aside0.mk hP
          have HBB := Aside0.mk hb
          have HNS := Aside0.mk hns
          have HBL := Aside0.mk hbl
          have HB5 := Aside0.mk h5
          have HN5 := Aside0.mk hn5
          have HL5 := Aside0.mk hl5
          have HNE := Aside0.mk hne
          have HD0 := Aside0.mk s0
          have HD1 := Aside0.mk s1
          have HD2 := Aside0.mk s2
          clear HL hP hb hns hbl h5 hn5 hl5 hne s0 s1 s2 kw0
          go_upto_region 7 with (fail)
          refine wp_region_noPanic ?_
          refine start_ (n := 11) (S := fun w' => (w'.cell? ⟨bx, 0, none⟩ = some (.int .i64 m) ∧ w'.cell? ⟨bx, 1, none⟩ = some (.slice A3 M.length c3) ∧ w'.cell? ⟨b5, 0, none⟩ = some (.pointer (some ⟨tb, 0, none⟩))) ∧ w'.cell? (ad.add (k * 3)) = some (.int .i64 (T k).1) ∧ w'.cell? ⟨(ad.add (k * 3)).block, (ad.add (k * 3)).off + 1, none⟩ = some (.int .i64 (T k).2.1) ∧ w'.cell? ⟨(ad.add (k * 3)).block, (ad.add (k * 3)).off + 2, none⟩ = some (.int .i64 (T k).2.2)) (ds := [10]) #[false, false, false, false, false, false, false, false, false, false, false] (by kernel_rfl) rfl rfl ⟨⟨b0, b1, p0⟩, d0, d1, d2⟩ (fun hHeld => ?_)
          refine pure_ (i := 2) (N := (some 38)) (v := ?_) (a' := ?_) #[false, false, true, false, false, false, false, false, false, false, false] rfl rfl (by kernel_rfl) (fun _ _ _ h => h) (Or.inl ⟨by rfl, ?_⟩) ?_ ?_
          rotate_left
          · intro w'
            go_simp
            with_reducible rfl
          rotate_left
          · simp only [Act.put, List.setIfInBounds_toArray, List.set_cons_zero, List.set_cons_succ]
            rfl
          refine pure_ (i := 3) (N := (some 39)) (v := ?_) (a' := ?_) #[false, false, true, true, false, false, false, false, false, false, false] rfl rfl (by kernel_rfl) (fun _ _ _ h => h) (Or.inl ⟨by rfl, ?_⟩) ?_ ?_
          rotate_left
          · intro w'
            go_simp
            with_reducible rfl
          rotate_left
          · simp only [Act.put, List.setIfInBounds_toArray, List.set_cons_zero, List.set_cons_succ]
            rfl
          refine pure_ (i := 4) (N := (some 40)) (v := ?_) (a' := ?_) #[false, false, true, true, true, false, false, false, false, false, false] rfl rfl (by kernel_rfl) (fun _ _ _ h => h) (Or.inl ⟨by rfl, ?_⟩) ?_ ?_
          rotate_left
          · intro w'
            go_simp
            with_reducible rfl
          rotate_left
          · simp only [Act.put, List.setIfInBounds_toArray, List.set_cons_zero, List.set_cons_succ]
            rfl
          refine take_ (i := 0) (N := (some 36)) (v := ?_) (a' := ?_) #[true, false, true, true, true, false, false, false, false, false, false] rfl rfl (by kernel_rfl) (fun _ _ _ h => h) (Or.inl ⟨by rfl, ?_⟩) hHeld ?_ ?_
          rotate_left
          · rintro w' ⟨⟨s0, s1, s5⟩, s2, s3, s4⟩
            go_simp
            with_reducible rfl
          rotate_left
          · simp only [Act.put, List.setIfInBounds_toArray, List.set_cons_zero, List.set_cons_succ]
            rfl
          refine take_ (i := 1) (N := (some 37)) (v := ?_) (a' := ?_) #[true, true, true, true, true, false, false, false, false, false, false] rfl rfl (by kernel_rfl) (fun _ _ _ h => h) (Or.inl ⟨by rfl, ?_⟩) hHeld ?_ ?_
          rotate_left
          · rintro w' ⟨⟨s0, s1, s5⟩, s2, s3, s4⟩
            go_simp
            with_reducible rfl
          rotate_left
          · simp only [Act.put, List.setIfInBounds_toArray, List.set_cons_zero, List.set_cons_succ]
            rfl
          refine take_ (i := 5) (N := (some 41)) (v := ?_) (a' := ?_) #[true, true, true, true, true, true, false, false, false, false, false] rfl rfl (by kernel_rfl) (fun _ _ _ h => h) (Or.inl ⟨by rfl, ?_⟩) hHeld ?_ ?_
          rotate_left
          · rintro w' ⟨⟨s0, s1, s5⟩, s2, s3, s4⟩
            go_simp
            with_reducible rfl
          rotate_left
          · simp only [Act.put, List.setIfInBounds_toArray, List.set_cons_zero, List.set_cons_succ]
            rfl
          refine one_ (i := 6) (N := (some 42)) #[true, true, true, true, true, true, true, false, false, false, false] rfl rfl (by kernel_rfl) (by decide) (fun K hK => ?_)
          refine goes_ Try.func16 (by kernel_rfl) rfl #[.pointer (some ⟨tb, 0, none⟩), .agg #[.int .i64 m, .slice A3 M.length c3], .agg #[.int .i64 (T k).1, .int .i64 (T k).2.1, .int .i64 (T k).2.2]] (by rfl) rfl rfl (by (try simp only [List.map_toArray, List.map_cons, List.map_nil]); first | done | rfl) ?_
          refine (play_calls (HP.out.stay ((Kp.refl wr _).drew)) (by omega) (T k).1 (T k).2.1 (T k).2.2).mono ?_
          rintro e w5 ⟨A5, c5, Ps5, M5, held5, S5, rfl, hP5, hKB, hFT⟩
          have hb5 := hKB bx _ 34 (.inl rfl) HBB.out HNS.out
          have hp5 := hKB b5 _ 23 (.inr (.inr rfl)) HB5.out HN5.out
          have q0 : w5.cell? ⟨bx, 0, none⟩ = some (.int .i64 m) := (blk_cell hb5 0).trans rfl
          have q1 : w5.cell? ⟨bx, 1, none⟩ = some (.slice A3 M.length c3) := (blk_cell hb5 1).trans rfl
          have q5 : w5.cell? ⟨b5, 0, none⟩ = some (.pointer (some ⟨tb, 0, none⟩)) := (blk_cell hp5 0).trans rfl
          have z0 : w5.frozen? ⟨bx, 0, none⟩ = false := blk_frozen hb5 0
          have z1 : w5.frozen? ⟨bx, 1, none⟩ = false := blk_frozen hb5 1
          have kw1 := KA.out.then_ hP5.st.kept (fun _ h => h.elim)
          have e0 := cell_kp HD0.out kw1 (fun h => h)
          have e1 := cell_kp HD1.out kw1 (fun h => h)
          have e2 := cell_kp HD2.out kw1 (fun h => h)
          have HP5 := Aside0.mk hP5
          have HFT5 := Aside0.mk hFT
          have HBX5 := Aside0.mk hb5
          have HPP5 := Aside0.mk hp5
          clear hP5 hKB hFT hb5 hp5 kw1
          refine ⟨_, rfl, ?_⟩
          refine hK.out _ _ ⟨⟨q0, q1, q5⟩, e0, e1, e2⟩ (fun hHeld => ?_)
          clear hK K
          refine norm_ (a' := ?_) ?_ ?_
          rotate_left
          · show Act.put _ (some 42) _ = _
            simp only [Act.put, List.setIfInBounds_toArray, List.set_cons_zero, List.set_cons_succ]
            rfl
          refine pure_ (i := 7) (N := (some 35)) (v := ?_) (a' := ?_) #[true, true, true, true, true, true, true, true, false, false, false] rfl rfl (by kernel_rfl) (fun _ _ _ h => h) (Or.inl ⟨by rfl, ?_⟩) ?_ ?_
          rotate_left
          · intro w'
            go_simp
            with_reducible rfl
          rotate_left
          · simp only [Act.put, List.setIfInBounds_toArray, List.set_cons_zero, List.set_cons_succ]
            rfl
          refine pure_ (i := 8) (N := (some 43)) (v := ?_) (a' := ?_) #[true, true, true, true, true, true, true, true, true, false, false] rfl rfl (by kernel_rfl) (fun _ _ _ h => h) (Or.inl ⟨by rfl, ?_⟩) ?_ ?_
          rotate_left
          · intro w'
            go_simp
            with_reducible rfl
          rotate_left
          · simp only [Act.put, List.setIfInBounds_toArray, List.set_cons_zero, List.set_cons_succ]
            rfl
          refine pure_ (i := 9) (N := (some 44)) (v := ?_) (a' := ?_) #[true, true, true, true, true, true, true, true, true, true, false] rfl rfl (by kernel_rfl) (fun _ _ _ h => h) (Or.inl ⟨by rfl, ?_⟩) ?_ ?_
          rotate_left
          · intro w'
            go_simp
            with_reducible rfl
          rotate_left
          · simp only [Act.put, List.setIfInBounds_toArray, List.set_cons_zero, List.set_cons_succ]
            rfl
          refine last_ (i := 10) (N := none) #[true, true, true, true, true, true, true, true, true, true, true] rfl rfl (by kernel_rfl) (by decide) (fun K hK => ?_)
          refine skip_ (w1 := ?_) (by rfl) rfl ?_ ?_
          rotate_left
          · go_simp
            rfl
          refine hK.out _ _ ?_
          clear hK K
          refine done_ (by kernel_rfl) ?_
          refine NoPanic.normal ?_
          have hbw5 := blk_lt HBX5.out
          have hbwr := blk_lt HBB.out
          have h5wr := blk_lt HB5.out
          have hn5 : ¬ S5 bx := fun hs => (HFT5.out bx hs).elim HNS.out (fun h => by have h2 : wr.heap.size ≤ bx := h; omega)
          have hn55 : ¬ S5 b5 := fun hs => (HFT5.out b5 hs).elim HN5.out (fun h => by have h2 : wr.heap.size ≤ b5 := h; omega)
          have K6 : Kp w5 ((w5.setCell ⟨bx, 0, none⟩ (.int .i64 m)).setCell ⟨bx, 1, none⟩ (.slice A5 M5.length c5)) (fun q => q = bx) := Kp.setCell (Kp.setCell (Kp.refl _ _) (by left; rfl) _) (by left; rfl) _
          have hP6 : Pq wa ((w5.setCell ⟨bx, 0, none⟩ (.int .i64 m)).setCell ⟨bx, 1, none⟩ (.slice A5 M5.length c5)) tb (wa.heap.size + 1) wa.heap.size m Ps5 (m + k + 1) held5 S5 (.slice A5 M5.length c5) M5 :=
            ⟨st_keep HP5.out.st K6 (fun q hq hs => hn5 (by rw [← hq]; exact hs)) (fun q hq => by rw [hq]; exact HBL.out), row_kept HP5.out.row K6 (fun q hq hs => by
              obtain ⟨_, cc, h2⟩ := hq
              rw [hs, HBX5.out] at h2
              cases h2), HP5.out.rm, HP5.out.len⟩
          have hb6 : ((w5.setCell ⟨bx, 0, none⟩ (.int .i64 m)).setCell ⟨bx, 1, none⟩ (.slice A5 M5.length c5)).heap[bx]? = some (.cells #[.int .i64 m, .slice A5 M5.length c5] 34 (0, 0)) := blk_put (blk_put HBX5.out 0 _ rfl) 1 _ rfl
          have h56 := blk_kp HPP5.out K6 (fun e => HNE.out e)
          have HL6 : Aside0 (Lo wa ((w5.setCell ⟨bx, 0, none⟩ (.int .i64 m)).setCell ⟨bx, 1, none⟩ (.slice A5 M5.length c5)) tb b5 bx m (k + 1)) := ⟨⟨Ps5, _, S5, M5, A5, c5, hP6, hb6, hn5, HBL.out, h56, hn55, HL5.out, HNE.out⟩⟩
          clear d0 d1 d2 b0 b1 p0 q0 q1 q5 z0 z1 e0 e1 e2 K6 HP HBB HP5 HBX5 HFT5 hP6 hb6 h56 hn5 hn55
          generalize (w5.setCell ⟨bx, 0, none⟩ (.int .i64 m)).setCell ⟨bx, 1, none⟩ (.slice A5 M5.length c5) = w6 at *
          go_wp2_with fail
          go_roundw
          case measure => simp [intOf]; omega
          case rel => exact ⟨k + 1, by omega, by omega, by go_num, HL6⟩
        · have t3 : decide ((k : Int) < 120) = false := decide_eq_false (by omega)
          go_wp2_with fail
          go_meet
          case rel => exact ⟨k, hk2, HL.out⟩
      · have t2 : decide ((k : Int) < (len : Int)) = false := decide_eq_false (by omega)
        go_wp2_with fail
        go_meet
        case rel => exact ⟨k, hk2, HL.out⟩
  clear HL1
  obtain ⟨k, hk, Ps, held, S, M, A3, c3, hP, hb, hns, hbl, h5, hn5, hl5, hne⟩ := hcut
  obtain ⟨wq, rfl⟩ : ∃ x, x = wc := ⟨_, rfl⟩
  have hC3 := Kd.R_reads' hP.row
  have hpl : Ps.length ≤ 65536 := Nat.le_trans (st_held hP.st).2 hm6
  obtain ⟨kf, hf⟩ := rising_f hP.rm hP.small hpl m
  have b0 : wq.cell? ⟨bx, 0, none⟩ = some (.int .i64 m) := (blk_cell hb 0).trans rfl
  have b1 : wq.cell? ⟨bx, 1, none⟩ = some (.slice A3 M.length c3) := (blk_cell hb 1).trans rfl
  have p0 : wq.cell? ⟨b5, 0, none⟩ = some (.pointer (some ⟨tb, 0, none⟩)) := (blk_cell h5 0).trans rfl
  have hb5lt := blk_lt h5
  have HP := Aside0.mk hP
  have HN5 := Aside0.mk hn5
  have HB5 := Aside0.mk h5
  have HC3 := Aside0.mk hC3
  have HF := Aside0.mk hf
  clear hP hb hns hbl h5 hn5 hl5 hne hC3 hf
  go_wp2_with fail
  go_upto_region 8 with (fail)
  go_cut [8, 9] from 17 (fun s8 s9 wx => ∃ (Bs : Nat) (cv : Value) (b9 : Nat) (Aw : Option Addr) (nw : Nat), s8 = .func (.func 43) #[] #[.pointer (some ⟨Bs, 0, none⟩)] ∧ s9 = .pointer (some ⟨b9, 0, none⟩) ∧ AlQ wq wx Bs cv Ps ∧ WnQ wq wx (.slice Aw (rl 0 Ps).length nw) Ps ∧ BnQ wq wx b9 (.slice Aw (rl 0 Ps).length nw) ∧ Kp wq wx (fun _ => False))
  case first =>
    refine wp_region_noPanic ?_
    refine start_ (n := 7) (S := fun w' => w'.cell? ⟨bx, 0, none⟩ = some (.int .i64 m) ∧ w'.cell? ⟨bx, 1, none⟩ = some (.slice A3 M.length c3) ∧ w'.cell? ⟨b5, 0, none⟩ = some (.pointer (some ⟨tb, 0, none⟩))) (ds := [6]) #[false, false, false, false, false, false, false] (by kernel_rfl) rfl rfl ⟨b0, b1, p0⟩ (fun hHeld => ?_)
    refine take_ (i := 0) (N := (some 45)) (v := ?_) (a' := ?_) #[true, false, false, false, false, false, false] rfl rfl (by kernel_rfl) (fun _ _ _ h => h) (Or.inl ⟨by rfl, ?_⟩) hHeld ?_ ?_
    rotate_left
    · rintro w' ⟨s0, s1, s5⟩
      go_simp
      with_reducible rfl
    rotate_left
    · simp only [Act.put, List.setIfInBounds_toArray, List.set_cons_zero, List.set_cons_succ]
      rfl
    refine take_ (i := 2) (N := (some 47)) (v := ?_) (a' := ?_) #[true, false, true, false, false, false, false] rfl rfl (by kernel_rfl) (fun _ _ _ h => h) (Or.inl ⟨by rfl, ?_⟩) hHeld ?_ ?_
    rotate_left
    · rintro w' ⟨s0, s1, s5⟩
      go_simp
      with_reducible rfl
    rotate_left
    · simp only [Act.put, List.setIfInBounds_toArray, List.set_cons_zero, List.set_cons_succ]
      rfl
    have kk : Kp wq wq.drew (fun _ => False) := (Kp.refl _ _).drew
    have kks := kk.size
    refine two_ (i := 1) (j := 4) (Ni := (some 46)) (Nj := (some 9)) #[true, true, true, false, false, false, false] #[true, false, true, false, true, false, false] rfl rfl rfl rfl (by kernel_rfl) (by decide) (by decide) (fun K hK => ?_) (fun K hK => ?_)
    · skip
      refine goes_ Try.func18 (by kernel_rfl) rfl #[.pointer (some ⟨tb, 0, none⟩)] (by rfl) rfl rfl (by (try simp only [List.map_toArray, List.map_cons, List.map_nil]); first | done | rfl) ?_
      refine (Ti.all_calls (st_stay HP.out.st kk)).mono ?_
      rintro e W2 ⟨Bs, cv, rfl, hBs, hle, hown, hcv, K2⟩
      have kk := kk.then_ K2 (fun _ h => h.elim)
      clear K2
      have hal : AlQ wq W2 Bs cv Ps := ⟨hBs, Nat.le_trans (by first | exact kks | exact Nat.le_refl _) hle, _, (by first | exact kks | exact Nat.le_refl _), hown⟩
      clear hBs hle hown hcv
      refine ⟨_, rfl, ?_⟩
      have kks := kk.size
      refine hK.out _ _ ⟨cell_kp b0 kk (fun h => h), cell_kp b1 kk (fun h => h), cell_kp p0 kk (fun h => h)⟩ (fun hHeld => ?_)
      clear hK K
      refine norm_ (a' := ?_) ?_ ?_
      rotate_left
      · show Act.put _ (some 46) _ = _
        simp only [Act.put, List.setIfInBounds_toArray, List.set_cons_zero, List.set_cons_succ]
        rfl
      refine two_ (i := 3) (j := 4) (Ni := (some 48)) (Nj := (some 9)) #[true, true, true, true, false, false, false] #[true, true, true, false, true, false, false] rfl rfl rfl rfl (by kernel_rfl) (by decide) (by decide) (fun K hK => ?_) (fun K hK => ?_)
      · skip
        refine goes_ Try.func19 (by kernel_rfl) rfl #[.agg #[.int .i64 m, .slice A3 M.length c3]] (by rfl) rfl rfl (by (try simp only [List.map_toArray, List.map_cons, List.map_nil]); first | done | rfl) ?_
        refine (brambleref04_Rising.calls kf m A3 c3 M _ _ (Kd.C_below HC3.out.2.2 kk.to_below) HC3.out.2.1 HF.out).mono ?_
        rintro e W2 ⟨v, rfl, hR, hB⟩
        have K2 := Kp.of_below hB (fun _ => False)
        have hal := hal.stay K2
        have kk := kk.then_ K2 (fun _ h => h.elim)
        clear K2
        obtain ⟨Aw, nw, rfl⟩ := Kd.R_slice hR
        have hwn : WnQ wq W2 (.slice Aw (rl 0 Ps).length nw) Ps := Kd.R_lower hR kks
        clear hR hB
        refine ⟨_, rfl, ?_⟩
        have kks := kk.size
        refine hK.out _ _ ⟨cell_kp b0 kk (fun h => h), cell_kp b1 kk (fun h => h), cell_kp p0 kk (fun h => h)⟩ (fun hHeld => ?_)
        clear hK K
        refine norm_ (a' := ?_) ?_ ?_
        rotate_left
        · show Act.put _ (some 48) _ = _
          simp only [Act.put, List.setIfInBounds_toArray, List.set_cons_zero, List.set_cons_succ]
          rfl
        refine one_ (i := 4) (N := (some 9)) #[true, true, true, true, true, false, false] rfl rfl (by kernel_rfl) (by decide) (fun K hK => ?_)
        refine box_step (by rfl) rfl (cs := #[.slice none 0 0]) (t := 32) (by first | (go_simp; done) | (go_simp; rfl)) ?_
        intro b9 hg W2 hk1 hbl
        have K2 := Kp.of_below hbl (fun _ => False)
        have hal := hal.stay K2
        have hwn := hwn.stay K2
        have kk := kk.then_ K2 (fun _ h => h.elim)
        clear K2
        have hbn : BnQ wq W2 b9 (.slice none 0 0) := ⟨hk1, by rw [hg]; exact kks⟩
        clear hk1 hbl hg
        have kks := kk.size
        refine hK.out _ _ ⟨cell_kp b0 kk (fun h => h), cell_kp b1 kk (fun h => h), cell_kp p0 kk (fun h => h)⟩ (fun hHeld => ?_)
        clear hK K
        refine norm_ (a' := ?_) ?_ ?_
        rotate_left
        · show Act.put _ (some 9) _ = _
          simp only [Act.put, List.setIfInBounds_toArray, List.set_cons_zero, List.set_cons_succ]
          rfl
        refine pure_ (i := 5) (N := (some 8)) (v := ?_) (a' := ?_) #[true, true, true, true, true, true, false] rfl rfl (by kernel_rfl) (fun _ _ _ h => h) (Or.inl ⟨by rfl, ?_⟩) ?_ ?_
        rotate_left
        · intro w'
          go_simp
          with_reducible rfl
        rotate_left
        · simp only [Act.put, List.setIfInBounds_toArray, List.set_cons_zero, List.set_cons_succ]
          rfl
        have hz : W2.frozen? ⟨b9, 0, none⟩ = false := blk_frozen hbn.1 0
        have hc9 : W2.cell? ⟨b9, 0, none⟩ = some (.slice none 0 0) := (blk_cell hbn.1 0).trans rfl
        refine last_ (i := 6) (N := none) #[true, true, true, true, true, true, true] rfl rfl (by kernel_rfl) (by decide) (fun K hK => ?_)
        refine skip_ (w1 := ?_) (by rfl) rfl ?_ ?_
        rotate_left
        · go_simp
          rfl
        refine hK.out _ _ ?_
        clear hK K
        refine done_ (by kernel_rfl) ?_
        refine NoPanic.normal ?_
        go_wp2_with fail
        go_meet
        case rel => exact ⟨Bs, cv, b9, Aw, nw, rfl, rfl, hal.put hbn, hwn.put hbn, hbn.put _, kk.then_ (Kp.setCell (Kp.refl _ (fun q => q = b9)) (by left; rfl) _) (fun q hq => .inr (by rw [hq]; exact hbn.2))⟩
      · skip
        refine box_step (by rfl) rfl (cs := #[.slice none 0 0]) (t := 32) (by first | (go_simp; done) | (go_simp; rfl)) ?_
        intro b9 hg W2 hk1 hbl
        have K2 := Kp.of_below hbl (fun _ => False)
        have hal := hal.stay K2
        have kk := kk.then_ K2 (fun _ h => h.elim)
        clear K2
        have hbn : BnQ wq W2 b9 (.slice none 0 0) := ⟨hk1, by rw [hg]; exact kks⟩
        clear hk1 hbl hg
        have kks := kk.size
        refine hK.out _ _ ⟨cell_kp b0 kk (fun h => h), cell_kp b1 kk (fun h => h), cell_kp p0 kk (fun h => h)⟩ (fun hHeld => ?_)
        clear hK K
        refine norm_ (a' := ?_) ?_ ?_
        rotate_left
        · show Act.put _ (some 9) _ = _
          simp only [Act.put, List.setIfInBounds_toArray, List.set_cons_zero, List.set_cons_succ]
          rfl
        refine one_ (i := 3) (N := (some 48)) #[true, true, true, true, true, false, false] rfl rfl (by kernel_rfl) (by decide) (fun K hK => ?_)
        refine goes_ Try.func19 (by kernel_rfl) rfl #[.agg #[.int .i64 m, .slice A3 M.length c3]] (by rfl) rfl rfl (by (try simp only [List.map_toArray, List.map_cons, List.map_nil]); first | done | rfl) ?_
        refine (brambleref04_Rising.calls kf m A3 c3 M _ _ (Kd.C_below HC3.out.2.2 kk.to_below) HC3.out.2.1 HF.out).mono ?_
        rintro e W2 ⟨v, rfl, hR, hB⟩
        have K2 := Kp.of_below hB (fun _ => False)
        have hal := hal.stay K2
        have hbn := hbn.stay K2
        have kk := kk.then_ K2 (fun _ h => h.elim)
        clear K2
        obtain ⟨Aw, nw, rfl⟩ := Kd.R_slice hR
        have hwn : WnQ wq W2 (.slice Aw (rl 0 Ps).length nw) Ps := Kd.R_lower hR kks
        clear hR hB
        refine ⟨_, rfl, ?_⟩
        have kks := kk.size
        refine hK.out _ _ ⟨cell_kp b0 kk (fun h => h), cell_kp b1 kk (fun h => h), cell_kp p0 kk (fun h => h)⟩ (fun hHeld => ?_)
        clear hK K
        refine norm_ (a' := ?_) ?_ ?_
        rotate_left
        · show Act.put _ (some 48) _ = _
          simp only [Act.put, List.setIfInBounds_toArray, List.set_cons_zero, List.set_cons_succ]
          rfl
        refine pure_ (i := 5) (N := (some 8)) (v := ?_) (a' := ?_) #[true, true, true, true, true, true, false] rfl rfl (by kernel_rfl) (fun _ _ _ h => h) (Or.inl ⟨by rfl, ?_⟩) ?_ ?_
        rotate_left
        · intro w'
          go_simp
          with_reducible rfl
        rotate_left
        · simp only [Act.put, List.setIfInBounds_toArray, List.set_cons_zero, List.set_cons_succ]
          rfl
        have hz : W2.frozen? ⟨b9, 0, none⟩ = false := blk_frozen hbn.1 0
        have hc9 : W2.cell? ⟨b9, 0, none⟩ = some (.slice none 0 0) := (blk_cell hbn.1 0).trans rfl
        refine last_ (i := 6) (N := none) #[true, true, true, true, true, true, true] rfl rfl (by kernel_rfl) (by decide) (fun K hK => ?_)
        refine skip_ (w1 := ?_) (by rfl) rfl ?_ ?_
        rotate_left
        · go_simp
          rfl
        refine hK.out _ _ ?_
        clear hK K
        refine done_ (by kernel_rfl) ?_
        refine NoPanic.normal ?_
        go_wp2_with fail
        go_meet
        case rel => exact ⟨Bs, cv, b9, Aw, nw, rfl, rfl, hal.put hbn, hwn.put hbn, hbn.put _, kk.then_ (Kp.setCell (Kp.refl _ (fun q => q = b9)) (by left; rfl) _) (fun q hq => .inr (by rw [hq]; exact hbn.2))⟩
    · skip
      refine box_step (by rfl) rfl (cs := #[.slice none 0 0]) (t := 32) (by first | (go_simp; done) | (go_simp; rfl)) ?_
      intro b9 hg W2 hk1 hbl
      have K2 := Kp.of_below hbl (fun _ => False)
      have kk := kk.then_ K2 (fun _ h => h.elim)
      clear K2
      have hbn : BnQ wq W2 b9 (.slice none 0 0) := ⟨hk1, by rw [hg]; exact kks⟩
      clear hk1 hbl hg
      have kks := kk.size
      refine hK.out _ _ ⟨cell_kp b0 kk (fun h => h), cell_kp b1 kk (fun h => h), cell_kp p0 kk (fun h => h)⟩ (fun hHeld => ?_)
      clear hK K
      refine norm_ (a' := ?_) ?_ ?_
      rotate_left
      · show Act.put _ (some 9) _ = _
        simp only [Act.put, List.setIfInBounds_toArray, List.set_cons_zero, List.set_cons_succ]
        rfl
      refine one_ (i := 1) (N := (some 46)) #[true, true, true, false, true, false, false] rfl rfl (by kernel_rfl) (by decide) (fun K hK => ?_)
      refine goes_ Try.func18 (by kernel_rfl) rfl #[.pointer (some ⟨tb, 0, none⟩)] (by rfl) rfl rfl (by (try simp only [List.map_toArray, List.map_cons, List.map_nil]); first | done | rfl) ?_
      refine (Ti.all_calls (st_stay HP.out.st kk)).mono ?_
      rintro e W2 ⟨Bs, cv, rfl, hBs, hle, hown, hcv, K2⟩
      have hbn := hbn.stay K2
      have kk := kk.then_ K2 (fun _ h => h.elim)
      clear K2
      have hal : AlQ wq W2 Bs cv Ps := ⟨hBs, Nat.le_trans (by first | exact kks | exact Nat.le_refl _) hle, _, (by first | exact kks | exact Nat.le_refl _), hown⟩
      clear hBs hle hown hcv
      refine ⟨_, rfl, ?_⟩
      have kks := kk.size
      refine hK.out _ _ ⟨cell_kp b0 kk (fun h => h), cell_kp b1 kk (fun h => h), cell_kp p0 kk (fun h => h)⟩ (fun hHeld => ?_)
      clear hK K
      refine norm_ (a' := ?_) ?_ ?_
      rotate_left
      · show Act.put _ (some 46) _ = _
        simp only [Act.put, List.setIfInBounds_toArray, List.set_cons_zero, List.set_cons_succ]
        rfl
      refine one_ (i := 3) (N := (some 48)) #[true, true, true, true, true, false, false] rfl rfl (by kernel_rfl) (by decide) (fun K hK => ?_)
      refine goes_ Try.func19 (by kernel_rfl) rfl #[.agg #[.int .i64 m, .slice A3 M.length c3]] (by rfl) rfl rfl (by (try simp only [List.map_toArray, List.map_cons, List.map_nil]); first | done | rfl) ?_
      refine (brambleref04_Rising.calls kf m A3 c3 M _ _ (Kd.C_below HC3.out.2.2 kk.to_below) HC3.out.2.1 HF.out).mono ?_
      rintro e W2 ⟨v, rfl, hR, hB⟩
      have K2 := Kp.of_below hB (fun _ => False)
      have hal := hal.stay K2
      have hbn := hbn.stay K2
      have kk := kk.then_ K2 (fun _ h => h.elim)
      clear K2
      obtain ⟨Aw, nw, rfl⟩ := Kd.R_slice hR
      have hwn : WnQ wq W2 (.slice Aw (rl 0 Ps).length nw) Ps := Kd.R_lower hR kks
      clear hR hB
      refine ⟨_, rfl, ?_⟩
      have kks := kk.size
      refine hK.out _ _ ⟨cell_kp b0 kk (fun h => h), cell_kp b1 kk (fun h => h), cell_kp p0 kk (fun h => h)⟩ (fun hHeld => ?_)
      clear hK K
      refine norm_ (a' := ?_) ?_ ?_
      rotate_left
      · show Act.put _ (some 48) _ = _
        simp only [Act.put, List.setIfInBounds_toArray, List.set_cons_zero, List.set_cons_succ]
        rfl
      refine pure_ (i := 5) (N := (some 8)) (v := ?_) (a' := ?_) #[true, true, true, true, true, true, false] rfl rfl (by kernel_rfl) (fun _ _ _ h => h) (Or.inl ⟨by rfl, ?_⟩) ?_ ?_
      rotate_left
      · intro w'
        go_simp
        with_reducible rfl
      rotate_left
      · simp only [Act.put, List.setIfInBounds_toArray, List.set_cons_zero, List.set_cons_succ]
        rfl
      have hz : W2.frozen? ⟨b9, 0, none⟩ = false := blk_frozen hbn.1 0
      have hc9 : W2.cell? ⟨b9, 0, none⟩ = some (.slice none 0 0) := (blk_cell hbn.1 0).trans rfl
      refine last_ (i := 6) (N := none) #[true, true, true, true, true, true, true] rfl rfl (by kernel_rfl) (by decide) (fun K hK => ?_)
      refine skip_ (w1 := ?_) (by rfl) rfl ?_ ?_
      rotate_left
      · go_simp
        rfl
      refine hK.out _ _ ?_
      clear hK K
      refine done_ (by kernel_rfl) ?_
      refine NoPanic.normal ?_
      go_wp2_with fail
      go_meet
      case rel => exact ⟨Bs, cv, b9, Aw, nw, rfl, rfl, hal.put hbn, hwn.put hbn, hbn.put _, kk.then_ (Kp.setCell (Kp.refl _ (fun q => q = b9)) (by left; rfl) _) (fun q hq => .inr (by rw [hq]; exact hbn.2))⟩
  clear b0 b1 p0 HC3 HF
  obtain ⟨wd, rfl⟩ : ∃ x, x = wc := ⟨_, rfl⟩
  obtain ⟨Bs, cv, b9, Aw, nw, rfl, rfl, hal, hwn, hbn, kk⟩ := hcut
  have hq : (binOp BinOp.eql 43 (Value.func (Fn.func 43) #[] #[.pointer (some ⟨Bs, 0, none⟩)]) Value.nilFunc).run Try.prog wd = .ok (.bool false) wd := by kernel_rfl
  go_upto_block 2 with (fail)
  clear hq
  obtain ⟨wN, hwN⟩ : ∃ wN, wd.alloc (.cells #[.int .i64 0] 3) = wN := ⟨_, rfl⟩
  have kN : Kp wd wN (fun _ => False) := by rw [← hwN]; exact (Kp.refl _ _).alloc _
  have hbt := heap_alloc_new wd (.cells #[.int .i64 0] 3)
  rw [hwN] at hbt ⊢
  clear hwN
  have kqN := kk.then_ kN (fun _ h => h.elim)
  have HAL := Aside0.mk (hal.stay kN)
  have HWN := Aside0.mk (hwn.stay kN)
  have HBN := Aside0.mk (hbn.stay kN)
  have HB5N := Aside0.mk (blk_kp HB5.out kqN (fun h => h))
  have HSL : Aside0 (∀ q, S q → q < wq.heap.size) := ⟨st_lt HP.out.st⟩
  have hqd := kk.size
  have hR0 : Aside0 (Rn wa wq wN wN tb wd.heap.size m S 0) := ⟨⟨hbt, kk.size, ⟨m + k, S, by omega, ⟨Ps, held, st_stay HP.out.st kqN⟩, fun hs => by have := HSL.out _ hs; omega, fun q hq => .inl hq⟩, Kp.refl _ _⟩⟩
  have HNS := HSL
  have haq : wa.heap.size ≤ wq.heap.size := HP.out.st.kept.size
  have hdN : wd.heap.size < wN.heap.size := blk_lt hbt
  have hqN := kqN.size
  have HKN : Aside0 (Kp wa wN (fun _ => False)) := ⟨HP.out.st.kept.then_ kqN (fun _ h => h.elim)⟩
  clear hal hwn hbn kk kN kqN hbt HB5 HP
  generalize wd.heap.size = bt0 at *
  go_step
  refine loop_two (fun t a W => ∃ (x11 x49 x50 x51 x52 x53 x54 x55 x98 x99 x100 x101 x102 x103 x104 x105 x106 x107 x108 x109 x110 x111 : Value) (bt : Nat) (ds : List Deferred), a = { tmps := #[.slice A len cap, .int .i64 stop, undef, .pointer (some ⟨w.heap.size, 0, none⟩), .pointer (some ⟨w.heap.size + 1, 0, none⟩), .pointer (some ⟨b5, 0, none⟩), .pointer (some ⟨bx, 0, none⟩), u7, .func (.func 43) #[] #[.pointer (some ⟨Bs, 0, none⟩)], .pointer (some ⟨b9, 0, none⟩), .pointer (some ⟨bt, 0, none⟩), x11, undef, undef, undef, undef, undef, u17, u18, u19, u20, u21, u22, u23, u24, u25, u26, u27, u28, u29, u30, u31, u32, u33, u34, u35, u36, u37, u38, u39, u40, u41, u42, u43, u44, u45, u46, u47, u48, x49, x50, x51, x52, x53, x54, x55, u56, u57, u58, u59, u60, u61, u62, u63, u64, u65, u66, u67, u68, u69, u70, u71, u72, u73, u74, u75, u76, u77, u78, u79, u80, u81, u82, u83, u84, u85, u86, u87, u88, u89, u90, u91, u92, u93, u94, u95, u96, u97, x98, x99, x100, x101, x102, x103, x104, x105, x106, x107, x108, x109, x110, x111, u112, u113, u114, u115, u116, u117, u118, u119, u120, u121, u122, u123, u124, u125, u126, u127, u128, u129, u130, u131], defers := ds } ∧ Aside0 (Rn wa wq wN W tb bt m S t) ∧ Aside0 (Dn wN W ds t)) ⟨_, _, _, _, _, _, _, _, _, _, _, _, _, _, _, _, _, _, _, _, _, _, bt0, [], rfl, hR0, ⟨.inl ⟨rfl, rfl⟩⟩⟩ ?_
  clear hR0
  rintro t a W ht ⟨x11, x49, x50, x51, x52, x53, x54, x55, x98, x99, x100, x101, x102, x103, x104, x105, x106, x107, x108, x109, x110, x111, bt, ds, rfl, HR, HD⟩ K hK
  have cbt : W.cell? ⟨bt, 0, none⟩ = some (.int .i64 (t : Int)) := (blk_cell HR.out.box 0).trans rfl
  by_cases ht2 : t < 2
  · have t2 : decide ((t : Int) < 2) = true := decide_eq_true (by omega)
    go_upto_block 4 with (fail)
    obtain ⟨w5, hw5⟩ : ∃ w5, W.alloc (.cells #[.int .i64 0] 3) = w5 := ⟨_, rfl⟩
    have k5 : Kp W w5 (fun _ => False) := by rw [← hw5]; exact (Kp.refl _ _).alloc _
    have hbn := heap_alloc_new W (.cells #[.int .i64 0] 3)
    rw [hw5] at hbn ⊢
    clear hw5 cbt
    obtain ⟨b, S', hbb, hany, hnb, hS'⟩ := HR.out.any
    have hNW := HR.out.kp.size
    have hlt' := any_lt hany
    have hW5 : W.heap.size < w5.heap.size := blk_lt hbn
    have HS' := Aside0.mk hS'
    have HLT := Aside0.mk hlt'
    have hbtW : bt < W.heap.size := blk_lt HR.out.box
    have hany5 : Any wa w5 tb (wa.heap.size + 1) wa.heap.size m b S' := any_keep hany k5 (fun _ h => h.elim) (fun _ h => h.elim)
    have hJ0 : Jn wa w5 w5 tb (wa.heap.size + 1) wa.heap.size m b W.heap.size S' 0 := ⟨hbn, ⟨S', hany5, fun q hq => .inl hq⟩, Kp.refl _ _⟩
    have HJ0 := Aside0.mk hJ0
    have hqS : ∀ q, wq.heap.size ≤ q → q < wN.heap.size → ¬ S' q := fun q h1 h2 hs => (hS' q hs).elim (fun h => by have := HSL.out q h; omega) (fun h => by omega)
    have KN5 : Kp wN w5 (fun q => wN.heap.size ≤ q ∨ S q) := HR.out.kp.then_ k5 (fun _ h => h.elim)
    have hqN5 : ∀ q, wq.heap.size ≤ q → q < wN.heap.size → ¬ (wN.heap.size ≤ q ∨ S q) := fun q h1 h2 hs => hs.elim (fun h => by omega) (fun h => by have := HSL.out q h; omega)
    have HAL5 := Aside0.mk (HAL.out.keep KN5 hqN5)
    have HWN5 := Aside0.mk (HWN.out.keep KN5 hqN5)
    have HBN5 := Aside0.mk (HBN.out.keep KN5 hqN5)
    have H55 : Aside0 (w5.heap[b5]? = some (.cells #[.pointer (some ⟨tb, 0, none⟩)] 23 (0, 0))) := ⟨blk_kp HB5N.out KN5 (fun hs => hs.elim (fun h => by omega) HN5.out)⟩
    have HN5' : Aside0 (¬ S' b5) := ⟨fun hs => (HS'.out b5 hs).elim HN5.out (fun h => by omega)⟩
    have HNB := Aside0.mk hnb
    have HBT5 := Aside0.mk (blk_kp HR.out.box k5 (fun h => h))
    have HA5 := Aside0.mk hany5
    have HQS := Aside0.mk hqS
    have HLR : Aside0 ((rl 0 Ps).length ≤ 65536) := ⟨by
      have h1 := rl_len 0 Ps
      have h2 := List.countP_le_length (p := fun x : It Int Bool => x.rank) (l := Ps)
      omega⟩
    have HK5 := Aside0.mk k5
    have HKN5 := Aside0.mk KN5
    have HQN5 := Aside0.mk hqN5
    clear hbn hany hnb hS' hlt' hany5 hJ0 hqS KN5 hqN5 k5
    generalize W.heap.size = bn at *
    refine wp_cutD (fun ds' W' => ∃ D c : Nat, ds' = { target := .collected D, args := #[] } :: ds ∧ c ≤ (rl 0 Ps).length ∧ Aside0 (Jn wa w5 W' tb (wa.heap.size + 1) wa.heap.size m b bn S' c) ∧ Aside0 (W'.heap[D]? = some (.deferred (some []))) ∧ w5.heap.size ≤ D ∧ (c = (rl 0 Ps).length ∨ (t = 0 ∧ (c : Int) = stop))) ?rst4 ?fst4
    case fst4 =>
      intro KM hKM
      go_step
      refine (wpIn_wide (n := 9)).1 ?_
      obtain ⟨hBs, hBl, base, hbase, hown⟩ := HAL5.out
      refine wpIn_rangeFunc_ownG (α := S47) rfl (by omega) (gf := 43) (lb := #[.pointer (some ⟨Bs, 0, none⟩)]) rfl trivial (enters_of Try.func43 (by kernel_rfl) rfl)
        (iter_stops Fence.wide 8 trivial rfl (by omega) Bs base (fun k => (w5.heap.size ≤ k ∨ k = bn) ∨ S' k) cv Ps hpl w5 hBs hown ?hg4) ?hKt4 ?hKb4 (Below.refl _ _) (fun _ => rfl)
        (fun pre W => pre <+: rl 0 Ps ∧ Jn wa w5 W tb (wa.heap.size + 1) wa.heap.size m b bn S' pre.length)
        (fun c pre W => (c = .ret ∧ ¬ (pre <+: rl 0 Ps)) ∨ (c = .exit 4 ∧ pre <+: rl 0 Ps ∧ t = 0 ∧ (pre.length : Int) = stop ∧ Jn wa w5 W tb (wa.heap.size + 1) wa.heap.size m b bn S' pre.length))
        ?hI4 ?hIx4 ?h04 ?a14 ?assign4 ?body4 ?done4 ?stop4
      case assign4 =>
        intro l x W K hK
        gi_wp2
        exact hK
      case hg4 =>
        intro k hk h
        obtain ⟨_, _, base', hb', hown'⟩ := HAL.out
        have h1 := own_base hown' k hk
        have h2 := own_lt hown' k hk
        rcases h with (h | h) | h
        · omega
        · omega
        · exact HQS.out k (by omega) h2 h
      case hKt4 =>
        intro A B C h k
        exact h.then_ k (fun _ h => .inl h)
      case hKb4 =>
        intro W l o o' hl ho hc hw
        exact (Ti.kp_grown (grownBy_putObj' W l o')).mono (fun k hk => by cases hk; exact .inl (.inl hl))
      case hI4 =>
        rintro s W W' row ⟨h1, h2⟩ hg hr
        exact ⟨h1, jn_own h2 hW5 (by omega) (by omega) hg hr⟩
      case hIx4 =>
        rintro c s W W' row (h | ⟨h1, h2, h3, h4, h5⟩) hg hr
        · exact .inl h
        · exact .inr ⟨h1, h2, h3, h4, jn_own h5 hW5 (by omega) (by omega) hg hr⟩
      case h04 => exact ⟨List.nil_prefix, HJ0.out⟩
      case done4 =>
        rintro D ys W hD rfl ⟨hp, hJ⟩ hK
        refine (fun h => h) (hKM _ _ ⟨D, (rl 0 Ps).length, rfl, Nat.le_refl _, ⟨hJ⟩, ⟨hK⟩, hD, .inl rfl⟩)
      case stop4 =>
        rintro D c pre W hD hSp hIx hK
        rcases hIx with ⟨h1, h2⟩ | ⟨rfl, h2, h3, h4, h5⟩
        · exact absurd hSp h2
        · refine wpIn_wide.2 ?_
          have HX := Aside0.mk (hKM _ _ ⟨D, pre.length, rfl, hSp.length_le, ⟨h5⟩, ⟨hK⟩, hD, .inr ⟨h3, h4⟩⟩)
          clear hKM h3 h4 h5 hSp hK h2
          go_wp2_with fail
          exact HX.out
      case body4 =>
        clear hKM hBs hown
        rintro l pre x W1 ⟨hp, hJ⟩ hlen
        obtain ⟨y, hy⟩ : ∃ y, (rl 0 Ps)[pre.length]? = some y := ⟨_, List.getElem?_eq_getElem hlen⟩
        have hpx : pre ++ [x] <+: rl 0 Ps ↔ x = y := by
          obtain ⟨t, ht⟩ := hp
          rw [← ht] at hy ⊢
          rw [List.getElem?_append_right (Nat.le_refl _), Nat.sub_self] at hy
          cases t with
          | nil => simp at hy
          | cons z t =>
            simp at hy
            subst hy
            rw [List.prefix_append_right_inj]
            simp
        have kNW : Kp wN W1 (fun q => wN.heap.size ≤ q ∨ S q) := HKN5.out.then_ hJ.kp (fun q hq => by
          rcases hq with (h | rfl) | h
          · exact .inr (by omega)
          · exact .inr (by omega)
          · exact (HS'.out q h).elim (fun h => .inl (.inr h)) .inr)
        have hkA : Kp wa W1 (fun _ => False) := by obtain ⟨S9, h9, _⟩ := hJ.any; exact any_kept h9
        have cn : W1.cell? ⟨bn, 0, none⟩ = some (.int .i64 (pre.length : Int)) := (blk_cell hJ.nb 0).trans rfl
        have zn : W1.frozen? ⟨bn, 0, none⟩ = false := blk_frozen hJ.nb 0
        have c9 : W1.cell? ⟨b9, 0, none⟩ = some (.slice Aw (rl 0 Ps).length nw) := (blk_cell (HBN.out.keep kNW HQN5.out).1 0).trans rfl
        have hb4 := blk_kp B4.out hkA (fun h => h)
        have c4 : W1.cell? ⟨w.heap.size + 1, 0, none⟩ = some (.bool false) := (blk_cell hb4 0).trans rfl
        have z4 : W1.frozen? ⟨w.heap.size + 1, 0, none⟩ = false := blk_frozen hb4 0
        have hw1 := HWN.out.keep kNW HQN5.out
        obtain ⟨ad, rfl, r0, r1⟩ := at_row (Kd.R_reads' hw1).2.2 (Kp.refl W1 (fun _ => False)) (fun _ _ h => h) hy
        have hyb := rl_bound 0 Ps y (List.mem_of_getElem? hy)
        have HPX := Aside0.mk hpx
        have HJ := Aside0.mk hJ
        have HLR' := HLR.out
        have hin : pre.length ≤ 65536 := by omega
        have t0 : decide (((rl 0 Ps).length : Int) ≤ (pre.length : Int)) = false := decide_eq_false (by omega)
        have t0n : decide ((rl 0 Ps).length ≤ pre.length) = false := decide_eq_false (by omega)
        clear hpx hJ hb4 hp hy hw1 kNW hkA
        by_cases e0 : y.f0 = x.f0
        · by_cases e1 : y.f1 = x.f1
          · have hxy : x = y := by cases x; cases y; simp only at e0 e1; rw [e0, e1]
            have HX := Aside0.mk (HPX.out.2 hxy)
            clear hxy
            have hb55 := blk_kp H55.out HJ.out.kp (fun h => by
              rcases h with (h | h) | h
              · omega
              · omega
              · exact HN5'.out h)
            have q5 : ∀ u, (W1.setCell ⟨bn, 0, none⟩ u).cell? ⟨b5, 0, none⟩ = some (.pointer (some ⟨tb, 0, none⟩)) := fun u => by rw [World.cell?_setCell_other _ _ _ _ (by first | (simp; done) | (simp; omega))]; exact (blk_cell hb55 0).trans rfl
            have hxb : 0 ≤ x.f0 ∧ x.f0 ≤ 65536 := by rw [← e0]; omega
            have HB55 := Aside0.mk hb55
            have HN5X : Aside0 (¬ ((w5.heap.size ≤ b5 ∨ b5 = bn) ∨ S' b5)) := ⟨fun h => by
              rcases h with (h | h) | h
              · omega
              · omega
              · exact HN5'.out h⟩
            have HJ0 := Aside0.mk (jt_start (wa := wa) HJ.out hW5 (by omega) (fun h => Nat.lt_irrefl _ (HLT.out _ h)))
            have hbt1 := blk_kp HBT5.out HJ.out.kp (fun h => by
              rcases h with (h | h) | h
              · omega
              · omega
              · exact HNB.out h)
            have HBT1 := Aside0.mk hbt1
            clear hb55 hyb hbt1
            gi_wp2_with fail
            refine ⟨trivial, ?_⟩
            clear q5 cn zn c9 c4 z4 r0 r1 e0 e1
            generalize W1.setCell ⟨bn, 0, none⟩ (.int .i64 ((pre.length : Int) + 1)) = v0 at *
            obtain ⟨S6, hA6, hS6⟩ := HJ0.out.any
            refine (CallsIn.inRound l (callsIn_wide.2 (any_drop hA6 (by omega) x.f0))).mono ?_
            rintro e v1 ⟨vr, rfl, S7, hA7, hT7⟩
            have HJ1 := Aside0.mk (jt_step HJ0.out hA6 hS6 (by omega) hT7 hA7 (by omega) (fun h => (hS6 _ h).elim (fun h => Nat.lt_irrefl _ (HLT.out _ h)) (fun h => by omega)) hW5 (by have := HJ.out.kp.size; have := HJ0.out.kp.size; omega))
            clear hA6 hS6 hA7 hT7 HJ0
            have d5 : v1.cell? ⟨b5, 0, none⟩ = some (.pointer (some ⟨tb, 0, none⟩)) := (blk_cell (blk_kp HB55.out HJ1.out.kp HN5X.out) 0).trans rfl
            gi_wp2_with fail
            refine ⟨trivial, ?_⟩
            clear d5
            obtain ⟨S8, hA8, hS8⟩ := HJ1.out.any
            refine (CallsIn.inRound l (callsIn_wide.2 (any_put hA8 (by omega) (-7)))).mono ?_
            rintro e v2 ⟨vr2, rfl, S9, hA9, hT9⟩
            have HJ2 := Aside0.mk (jt_step HJ1.out hA8 hS8 (by omega) hT9 hA9 (by omega) (fun h => (hS8 _ h).elim (fun h => Nat.lt_irrefl _ (HLT.out _ h)) (fun h => by omega)) hW5 (by have := HJ.out.kp.size; have := HJ1.out.kp.size; omega))
            clear hA8 hS8 hA9 hT9 HJ1
            have d5 : v2.cell? ⟨b5, 0, none⟩ = some (.pointer (some ⟨tb, 0, none⟩)) := (blk_cell (blk_kp HB55.out HJ2.out.kp HN5X.out) 0).trans rfl
            gi_wp2_with fail
            refine ⟨trivial, ?_⟩
            clear d5
            obtain ⟨S10, hA10, hS10⟩ := HJ2.out.any
            refine (CallsIn.inRound l (callsIn_wide.2 (any_set hA10 (x.f0 + 1) (-8)))).mono ?_
            rintro e v3 ⟨vr3, rfl, S11, hA11, hT11⟩
            have HJ3 := Aside0.mk (jt_step HJ2.out hA10 hS10 (by omega) hT11 hA11 (by omega) (fun h => (hS10 _ h).elim (fun h => Nat.lt_irrefl _ (HLT.out _ h)) (fun h => by omega)) hW5 (by have := HJ.out.kp.size; have := HJ2.out.kp.size; omega))
            clear hA10 hS10 hA11 hT11 HJ2
            have HJF := Aside0.mk (jt_done HJ.out HJ3.out (by omega))
            have cn3 : v3.cell? ⟨bn, 0, none⟩ = some (.int .i64 ((pre.length : Int) + 1)) := (blk_cell HJ3.out.nb 0).trans rfl
            have cbt3 : v3.cell? ⟨bt, 0, none⟩ = some (.int .i64 (t : Int)) := (blk_cell (blk_kp HBT1.out HJ3.out.kp (fun h => by
              rcases h with (h | h) | h
              · omega
              · omega
              · exact HNB.out h)) 0).trans rfl
            have c33 : v3.cell? ⟨w.heap.size, 0, none⟩ = some (.int .i64 stop) := (blk_cell (blk_kp B3.out (by obtain ⟨S9, h9, _⟩ := HJ3.out.any; exact any_kept h9) (fun h => h)) 0).trans rfl
            have hln : (pre ++ [x]).length = pre.length + 1 := by simp
            have HLN := Aside0.mk hln
            clear hln
            by_cases ht0 : t = 0
            · have z0 : ((t : Int) == 0) = true := by rw [ht0]; rfl
              have HT0 := Aside0.mk ht0
              clear ht0
              by_cases hst : ((pre.length : Int) + 1) = stop
              · have z1 : (((pre.length : Int) + 1) == stop) = true := by rw [hst]; simp
                have HST := Aside0.mk hst
                clear hst
                gi_wp2
                exact ⟨HJ3.out.from_, .inr ⟨rfl, HX.out, HT0.out, by rw [HLN.out, Int.natCast_add]; exact HST.out, by rw [HLN.out]; exact HJF.out⟩⟩
              · have z1 : (((pre.length : Int) + 1) == stop) = false := by simpa using hst
                clear hst
                gi_wp2
                exact ⟨HJ3.out.from_, HJ3.out.kp, HX.out, by rw [HLN.out]; exact HJF.out⟩
            · have z0 : ((t : Int) == 0) = false := by rw [beq_eq_false_iff_ne]; omega
              clear ht0
              gi_wp2
              exact ⟨HJ3.out.from_, HJ3.out.kp, HX.out, by rw [HLN.out]; exact HJF.out⟩
          · have HX : Aside0 (¬ (pre ++ [x] <+: rl 0 Ps)) := ⟨fun h => e1 (by rw [HPX.out.1 h])⟩
            have t2 : (y.f1 != x.f1) = true := by simpa using e1
            clear e1
            gi_wp2
            exact ⟨(KeepsOthers.setCell _ _ _).from _, .inl ⟨rfl, HX.out⟩⟩
        · have HX : Aside0 (¬ (pre ++ [x] <+: rl 0 Ps)) := ⟨fun h => e0 (by rw [HPX.out.1 h])⟩
          have t1 : (y.f0 != x.f0) = true := by simpa using e0
          clear e0
          gi_wp2
          exact ⟨(KeepsOthers.setCell _ _ _).from _, .inl ⟨rfl, HX.out⟩⟩
    case rst4 =>
      rintro ds' W' ⟨D, c, rfl, hcl, HJ, HDD, hD5, hcs⟩
      have kNW : Kp wN W' (fun q => wN.heap.size ≤ q ∨ S q) := HKN5.out.then_ HJ.out.kp (fun q hq => by
        rcases hq with (h | rfl) | h
        · exact .inr (by omega)
        · exact .inr (by omega)
        · exact (HS'.out q h).elim (fun h => .inl (.inr h)) .inr)
      have cn : W'.cell? ⟨bn, 0, none⟩ = some (.int .i64 (c : Int)) := (blk_cell HJ.out.nb 0).trans rfl
      have c9 : W'.cell? ⟨b9, 0, none⟩ = some (.slice Aw (rl 0 Ps).length nw) := (blk_cell (HBN.out.keep kNW HQN5.out).1 0).trans rfl
      have cbt : W'.cell? ⟨bt, 0, none⟩ = some (.int .i64 (t : Int)) := (blk_cell (blk_kp HBT5.out HJ.out.kp (fun h => by
        rcases h with (h | h) | h
        · omega
        · omega
        · exact HNB.out h)) 0).trans rfl
      have c3 : W'.cell? ⟨w.heap.size, 0, none⟩ = some (.int .i64 stop) := (blk_cell (blk_kp B3.out (by obtain ⟨S9, h9, _⟩ := HJ.out.any; exact any_kept h9) (fun h => h)) 0).trans rfl
      have HNX : Aside0 (∀ Wx, Kp W' Wx (fun q => q = W'.heap.size) → Wx.heap[W'.heap.size]? = some (.cells #[.int .i64 ((t : Int) + 1)] 3 (0, 0)) → Rn wa wq wN Wx tb W'.heap.size m S (t + 1) ∧ Dn wN Wx ({ target := .collected D, args := #[] } :: ds) (t + 1)) :=
        ⟨fun Wx h1 h2 => ⟨turn_next HKN5.out HS'.out HJ.out hNW hW5 hbb (by have := HLR.out; omega) ht2 h1 h2 hqN haq, dn_next HD.out HK5.out HA5.out (by rw [HJ0.out.nb]; intro h; cases h) HJ.out HDD.out hNW hW5 hD5 (by omega) ht2 h1⟩⟩
      have hcl2 := HLR.out
      clear kNW
      by_cases hc : c = (rl 0 Ps).length
      · have q1 : ((c : Int) != ((rl 0 Ps).length : Int)) = false := by rw [hc]; simp
        clear hc hcs
        go_wp2_with fail
        have HNY := HNX.out _ (((Kp.refl W' (fun q => q = W'.heap.size)).alloc (.cells #[.int .i64 ((t : Int) + 1)] 3))) (heap_alloc_new _ _)
        exact hK _ _ ht2 ⟨_, _, _, _, _, _, _, _, _, _, _, _, _, _, _, _, _, _, _, _, _, _, W'.heap.size, _, rfl, ⟨HNY.1⟩, ⟨HNY.2⟩⟩
      · obtain ⟨ht0, hst⟩ := hcs.resolve_left hc
        have q1 : ((c : Int) != ((rl 0 Ps).length : Int)) = true := by
          rw [bne_iff_ne]; intro h; exact hc (by omega)
        have q2 : ((t : Int) == 1) = false := by rw [ht0]; rfl
        have q3 : ((c : Int) != stop) = false := by rw [hst]; simp
        clear hc hcs ht0 hst
        go_wp2_with fail
        have HNY := HNX.out _ (((Kp.refl W' (fun q => q = W'.heap.size)).alloc (.cells #[.int .i64 ((t : Int) + 1)] 3))) (heap_alloc_new _ _)
        exact hK _ _ ht2 ⟨_, _, _, _, _, _, _, _, _, _, _, _, _, _, _, _, _, _, _, _, _, _, W'.heap.size, _, rfl, ⟨HNY.1⟩, ⟨HNY.2⟩⟩
  · have t2 : decide ((t : Int) < 2) = false := decide_eq_false (by omega)
    obtain rfl : t = 2 := by omega
    have hkW : Kp wa W (fun _ => False) := by obtain ⟨_, S9, _, h9, _⟩ := HR.out.any; exact any_kept h9
    have HB4W := Aside0.mk (blk_kp B4.out hkW (fun h => h))
    have hlW : w.heap.size + 1 < W.heap.size := blk_lt HB4W.out
    have HKW : Aside0 (Kp w W (fun _ => False)) := ⟨KA.out.then_ hkW (fun _ h => h.elim)⟩
    clear hK hkW
    go_upto_region 29 with (fail)
    clear cbt
    obtain ⟨_, D, D', rfl, hDD, hd1, hd2, hd3⟩ := (HD.out.resolve_left (fun h => by omega)).resolve_left (fun h => by omega)
    have HD1 := Aside0.mk hd1
    have HD2 := Aside0.mk hd2
    clear hd1 hd2 HD HR
    go_wp2_with fail
    refine (Ts.new_calls 2 W).mono ?_
    rintro e v1 ⟨tb2, T1, rfl, h1⟩
    have H1 : Aside0 (St Ts.PF W v1 tb2 (W.heap.size + 1) W.heap.size Ts.LV Ts.Z 2 [] 2 0 T1) := ⟨h1⟩
    clear h1
    go_wp2_with fail
    refine (Ts.put_ok H1.out (j := 0) rfl (by omega) (fun p hp => by simp at hp) (by omega) sx).mono ?_
    rintro e v2 ⟨rfl, T2, h2, _⟩
    have H2 : Aside0 (St Ts.PF W v2 tb2 (W.heap.size + 1) W.heap.size Ts.LV Ts.Z 2 [⟨sx, true, 0⟩] 2 1 T2) := ⟨h2⟩
    clear h2 H1
    go_wp2_with fail
    refine (Ts.at_st H2.out (j := 0) (p := ⟨sx, true, 0⟩) rfl).mono ?_
    rintro e v3 ⟨rfl, T3, h3, _⟩
    have H3 : Aside0 (St Ts.PF W v3 tb2 (W.heap.size + 1) W.heap.size Ts.LV Ts.Z 2 [⟨sx, true, 0⟩] 2 1 T3) := ⟨h3⟩
    clear h3 H2
    have hb43 := blk_kp HB4W.out H3.out.kept (fun h => h)
    have z4 : v3.frozen? ⟨w.heap.size + 1, 0, none⟩ = false := blk_frozen hb43 0
    have c4 : v3.cell? ⟨w.heap.size + 1, 0, none⟩ = some (.bool false) := (blk_cell hb43 0).trans rfl
    have HB43 := Aside0.mk hb43
    clear hb43
    go_wp2_with fail
    refine (Ts.len_st H3.out).mono ?_
    rintro e v4 ⟨rfl, rfl⟩
    go_wp2_with fail
    have hd1v := (H3.out.kept.keep D (Array.getElem?_eq_some_iff.1 HD1.out).1 (fun h => h)).trans HD1.out
    have hd2v := (H3.out.kept.keep D' (Array.getElem?_eq_some_iff.1 HD2.out).1 (fun h => h)).trans HD2.out
    have hB4 : (v3.setCell ⟨w.heap.size + 1, 0, none⟩ (.bool true)).heap[w.heap.size + 1]? = some (.cells #[.bool true] 4 (0, 0)) := blk_put HB43.out 0 _ rfl
    have hKD1 : (v3.setCell ⟨w.heap.size + 1, 0, none⟩ (.bool true)).heap[D]? = some (.deferred (some [])) := (KeepsOthers.setCell v3 _ _).same D _ hd1v rfl
    have hKD2 : (v3.setCell ⟨w.heap.size + 1, 0, none⟩ (.bool true)).heap[D']? = some (.deferred (some [])) := (KeepsOthers.setCell v3 _ _).same D' _ hd2v rfl
    have KF : Kp w (v3.setCell ⟨w.heap.size + 1, 0, none⟩ (.bool true)) (fun _ => False) := (HKW.out.then_ H3.out.kept (fun _ h => h.elim)).then_ (Kp.setCell (Kp.refl v3 (fun k => k = w.heap.size + 1)) (by left; rfl) _) (fun k hk => .inr (by rw [hk]; omega))
    clear c4 z4 HD1 HD2 HB4W HB43 H3 hd1v hd2v
    generalize v3.setCell ⟨w.heap.size + 1, 0, none⟩ (.bool true) = Wf at *
    have hKD3 : (Wf.putObj D' (.deferred none)).heap[D]? = some (.deferred (some [])) := (World.putObj_heap_other (by omega)).trans hKD1
    have hB4f : ((Wf.putObj D' (.deferred none)).putObj D (.deferred none)).heap[w.heap.size + 1]? = some (.cells #[.bool true] 4 (0, 0)) := (World.putObj_heap_other (by omega)).trans ((World.putObj_heap_other (by omega)).trans hB4)
    have hcf : ((Wf.putObj D' (.deferred none)).putObj D (.deferred none)).cell? ⟨w.heap.size + 1, 0, none⟩ = some (.bool true) := (blk_cell hB4f 0).trans rfl
    have KFF := Aside0.mk ((KF.then_ (Ti.kp_grown (grownBy_putObj' Wf D' (.deferred none))) (fun k hk => by cases hk; exact .inr (by omega))).then_ (Ti.kp_grown (grownBy_putObj' (Wf.putObj D' (.deferred none)) D (.deferred none))) (fun k hk => by cases hk; exact .inr (by omega)))
    clear hB4 hB4f KF
    refine ⟨by simp, .inl ⟨_, _, rfl, run_takeDeferred hKD2, ?_⟩⟩
    refine ⟨by simp, .inl ⟨_, _, rfl, run_takeDeferred hKD3, ?_⟩⟩
    refine ⟨.bool true, ?_, rfl, KFF.out⟩
    have hres : Try.f6.results = #[ResultVar.cell 4 4] := rfl
    simp [results, hres, go_sem, hcf]
theorem law_row (A : Option Addr) (len cap : Nat) (T : Nat → Int × Int × Int) (stop : Int) (w : World) (hl : len ≤ cap) (hm : cap ≤ maxLen) (hT : ∀ i, i < len → ∃ a, A = some a ∧ w.cell? (a.add (i * 3)) = some (.int .i64 (T i).1) ∧ w.cell? (a.add (i * 3 + 1)) = some (.int .i64 (T i).2.1) ∧ w.cell? (a.add (i * 3 + 2)) = some (.int .i64 (T i).2.2) ∧ (Lit.int .i64 (T i).1).wf = true ∧ (Lit.int .i64 (T i).2.1).wf = true ∧ (Lit.int .i64 (T i).2.2).wf = true) (_ : (Lit.int .i64 stop).wf = true) :
    Calls Try.prog 6 #[.slice A len cap, .int .i64 stop] w fun e w' => e = .returned (.bool true) ∧ Below w.heap.size w w' :=
  (own_calls A len cap T stop w hl hm (fun i hi => by obtain ⟨a, h1, h2, h3, h4, _⟩ := hT i hi; exact ⟨a, h1, h2, h3, h4⟩)).mono fun _ _ h => ⟨h.1, h.2.to_below⟩
end Go.Proofs.Ytiocnkoogachkaa.Wa
