/- This text walks Clone and All of a table of numbers: what an iterator is asked for. -/
import Derived.Test.YtiocnkoogachkaaTdi
import Derived.Test.YtiocnkoogachkaaRs
import Derived.Maps.AppendAt
namespace Go.Proofs.Ytiocnkoogachkaa.Ti
open Go.RowKit Go.Proofs.YtiocnkoogachkaaW.PrintWords Go.Proofs.Ytiocnkoogachkaa.Mp Go.Proofs.Ytiocnkoogachkaa.Hp Go.Proofs.Ytiocnkoogachkaa.Tg
set_option linter.unusedVariables false
set_option linter.unusedSimpArgs false
section
variable {w0 w : World} {base tb hb pb : Nat} {fv sv : Value} {most held c : Int} {Ps : List (It Int Bool)} {L : List (It Int Int)} {m b : Nat} {S : Nat → Prop}
theorem putKey {g cap i : Nat} {p : It Int Bool} (h : MR PF w base tb hb pb fv sv (.slice (some ⟨g, 0, none⟩) Ps.length cap) most Ps L c held) (hp : Ps[i]? = some p) (x : Int) :
    MR PF (w.setCell ⟨g, i * 2, none⟩ (.int .i64 x)) base tb hb pb fv sv (.slice (some ⟨g, 0, none⟩) Ps.length cap) most (Ps.set i ⟨x, p.rank, 0⟩) L c held ∧
      Step w (w.setCell ⟨g, i * 2, none⟩ (.int .i64 x)) (Ours tb hb pb sv (.slice (some ⟨g, 0, none⟩) Ps.length cap)) (Ours tb hb pb sv (.slice (some ⟨g, 0, none⟩) Ps.length cap)) := by
  have K : Kp w (w.setCell ⟨g, i * 2, none⟩ (.int .i64 x)) (fun k => k = g) := Kp.setCell (Kp.refl _ _) (by left; rfl) _
  have hi := (List.getElem?_eq_some_iff.1 hp).1
  have hg := h.pts g rfl
  have h2 := own_set h.row (i * 2) (.int .i64 x)
  have e : (flat PF Ps).set (i * 2) (.int .i64 x) = flat PF (Ps.set i ⟨x, p.rank, 0⟩) := by
    have hl : (flat PF Ps).length = Ps.length * 2 := flat_len PF Ps
    refine flat_set PF Ps i _ hi _ (by simp only [List.length_set]) ?_ ?_
    · intro k hk
      have hk : k < 2 := hk
      show _[i * 2 + k]? = _
      rcases (show k = 0 ∨ k = 1 by omega) with rfl | rfl
      · change _[i * 2]? = _
        rw [List.getElem?_set_self (by omega)]; rfl
      · rw [List.getElem?_set_ne (by omega)]
        exact (flat_get PF Ps i 1 p hp (by decide)).trans rfl
    · intro q hq
      have hq : q < i * 2 ∨ (i + 1) * 2 ≤ q := hq
      rw [List.getElem?_set_ne (by omega)]
  rw [e] at h2
  refine ⟨⟨blk_kp h.head K (fun hk => hg.1 hk.symm), by rw [List.length_set]; exact h2, h.heap.kept K (fun k hk hm => hg.2 (by rw [← hk]; exact hm)), h.tbase, h.ths, h.pts⟩, ⟨K.mono (fun k hk => .inr (.inr (by rw [hk]; rfl))), fun k hk => .inl hk⟩⟩
theorem pi_set {z : Int} (h : PI z m Ps L held) {j : Nat} {p : It Int Bool} (hp : Ps[j]? = some p) (hr : p.rank = true) (x : Int) : PI z m (Ps.set j ⟨x, true, 0⟩) L held := by
  refine ⟨h.hH, h.rk, fun k => ?_, fun y hy hry => ?_, by rw [cnt_set hp, hr, h.cnt]; simp, by rw [List.length_set]; exact h.le⟩
  · rw [h.free]
    constructor
    · rintro ⟨q, hq, y, hy, hry⟩
      refine ⟨q, hq, y, ?_, hry⟩
      rw [List.getElem?_set_ne]
      · exact hy
      · rintro rfl
        rw [hp] at hy
        cases hy
        rw [hr] at hry
        cases hry
    · rintro ⟨q, hq, y, hy, hry⟩
      by_cases e : j = q
      · subst e
        rw [List.getElem?_set_self (List.getElem?_eq_some_iff.1 hp).1] at hy
        cases hy
        cases hry
      · rw [List.getElem?_set_ne e] at hy
        exact ⟨q, hq, y, hy, hry⟩
  · rcases List.mem_or_eq_of_mem_set hy with hy | hy
    · exact h.zero y hy hry
    · rw [hy] at hry; cases hry
theorem set_out (h : St PF w0 w tb hb pb LV Z m Ps b held S) {i : Int} (hi : i < 1 ∨ (Ps.length : Int) < i) (x : Int) :
    Calls Try.prog 20 #[.pointer (some ⟨tb, 0, none⟩), .int .i64 i, .int .i64 x] w fun e w' => e = .returned (.bool false) ∧ w = w' := by
  obtain ⟨sv, pv, L, c, M, P, _⟩ := h.ex
  have H := Aside0.mk M
  have HI := Aside0.mk hi
  clear h hi M P
  go_enter Try.func20, Try.ntmps20
  go_wp2_with (first | (go_at_call 32; refine (at_none H.out HI.out).mono ?_; rintro e w' ⟨rfl, rfl⟩))
  go_ret
  exact ⟨rfl, rfl⟩
theorem set_free (h : St PF w0 w tb hb pb LV Z m Ps b held S) {j : Nat} {p : It Int Bool} (hp : Ps[j]? = some p) (hr : p.rank = false) (x : Int) :
    Calls Try.prog 20 #[.pointer (some ⟨tb, 0, none⟩), .int .i64 ((j : Int) + 1), .int .i64 x] w fun e w' => e = .returned (.bool false) ∧ w = w' := by
  obtain ⟨sv, pv, L, c, M, P, _⟩ := h.ex
  have hsm : Ps.length ≤ 65536 := Nat.le_trans P.le h.small
  obtain ⟨g, cap, rfl⟩ := M.slice' (by have := (List.getElem?_eq_some_iff.1 hp).1; omega)
  have e1 : w.cell? ⟨g, j * 2 + 1, none⟩ = some (.bool false) := by rw [← hr]; exact M.cellK (k := 1) hp (by decide) rfl
  have H := Aside0.mk M
  have HP := Aside0.mk hp
  have HS := Aside0.mk hsm
  clear h hp M P hr hsm
  go_enter Try.func20, Try.ntmps20
  go_wp2_with (first | (go_at_call 32; refine (at_some H.out HP.out HS.out).mono ?_; rintro e w' ⟨rfl, rfl⟩))
  go_ret
  exact ⟨rfl, rfl⟩
theorem set_ok (h : St PF w0 w tb hb pb LV Z m Ps b held S) {j : Nat} {p : It Int Bool} (hp : Ps[j]? = some p) (hr : p.rank = true) (x : Int) :
    Calls Try.prog 20 #[.pointer (some ⟨tb, 0, none⟩), .int .i64 ((j : Int) + 1), .int .i64 x] w fun e w' => e = .returned (.bool true) ∧ Nx PF w0 w w' tb hb pb LV Z m (Ps.set j ⟨x, true, 0⟩) b held S := by
  obtain ⟨sv, pv, L, c, M, P, hl, hc, rfl⟩ := h.ex
  have hsm : Ps.length ≤ 65536 := Nat.le_trans P.le h.small
  obtain ⟨g, cap, rfl⟩ := M.slice' (by have := (List.getElem?_eq_some_iff.1 hp).1; omega)
  have e0 : w.cell? ⟨g, j * 2, none⟩ = some (.int .i64 p.key) := M.cellK (k := 0) hp (by decide) rfl
  have e1 : w.cell? ⟨g, j * 2 + 1, none⟩ = some (.bool true) := by rw [← hr]; exact M.cellK (k := 1) hp (by decide) rfl
  have z0 : w.frozen? ⟨g, j * 2, none⟩ = false := own_frozen M.row _
  have FIN : Aside0 (Nx PF w0 w (w.setCell ⟨g, j * 2, none⟩ (.int .i64 x)) tb hb pb LV Z m (Ps.set j ⟨x, true, 0⟩) b held (Ours tb hb pb sv (.slice (some ⟨g, 0, none⟩) Ps.length cap))) := ⟨by
    obtain ⟨M2, T2⟩ := putKey M hp x
    rw [hr] at M2
    exact h.next M2 (pi_set P hp hr x) hl (by rw [List.length_set]; exact hc) T2⟩
  have H := Aside0.mk M
  have HP := Aside0.mk hp
  have HS := Aside0.mk hsm
  clear h hp M P hr hsm hl hc
  go_enter Try.func20, Try.ntmps20
  go_wp2_with (first | (go_at_call 32; refine (at_some H.out HP.out HS.out).mono ?_; rintro e w' ⟨rfl, rfl⟩))
  go_ret
  exact ⟨rfl, FIN.out⟩
end
theorem wpList_append_at {P : Program} {ops : Array Oper} {rest : List Oper} {o : Oper} {a : Act} {w : World} {Q : Exit → Act → World → Prop}
    (hg : o.guard = none) (s x : Operand) (t : TypeId) (ho : o.op = .call { callee := .builtin .append, args := #[s, x], argTypes := #[t, t] })
    (base : Nat) (e : TypeId) (i : TypeInfo) (z : Value) (size bytes : Nat) (ht : P.underlying t = some (.slice e)) (hi : P.info? e = some i) (hz : i.zero = some z)
    (hsize : i.size = size) (hby : i.bytes = bytes) (hzs : z.cells.size = size) (hsz : 0 < size)
    (v : Value) (n : Nat) (xs : List Value) (hs : a.eval s = v) (hown : w.ownsRow base e size v n xs)
    (ad : Addr) (m c : Nat) (news : List Value) (hx : a.eval x = .slice (some ad) m c) (hl : news.length = m * size) (hnews : ∀ j u, news[j]? = some u → w.cell? (ad.add j) = some u) (h1 : ∀ u ∈ news, u.oneCell' = true)
    (h63 : n + m ≤ maxLen) (hbytes : (n + m) * bytes ≤ 140737488355328) (hbase : base ≤ w.heap.size)
    (h : ∀ v' w', w'.ownsRow base e size v' (n + m) (xs ++ news) → w.grownBy w' v.ownBlock → (v'.ownBlock = v.ownBlock ∨ v'.ownBlock = some w.heap.size) → wpList P ops Q rest (a.put o.dst v') w') :
    wpList P ops Q (o :: rest) a w := by
  refine wpList_append_own_at w hg s x t ho base e i z size bytes ht hi hz hsize hby hzs hsz v n xs hs hown ad m c news hx hl hnews h1 h63 hbytes hbase ?_
  intro v1 w1 hown hg2 _ hat
  exact h v1 w1 hown hg2 hat
theorem kp_grown {W w1 : World} {row : Option Nat} (hg : W.grownBy w1 row) : Kp W w1 (fun q => row = some q) := ⟨hg.size, fun k hk hn => hg.block k hk (fun e => hn e.symm), hg.os, hg.tape, hg.output⟩
theorem add0 (g j : Nat) : (⟨g, 0, none⟩ : Addr).add j = ⟨g, j, none⟩ := by simp [Addr.add]; exact fun h => h.symm
theorem one_cells (Ps : List (It Int Bool)) : ∀ u ∈ flat PF Ps, u.oneCell' = true := fun u hu => by
  obtain ⟨r, _, hr⟩ := List.mem_flatMap.1 hu
  simp only [PF, List.mem_cons, List.not_mem_nil, or_false] at hr
  rcases hr with rfl | rfl <;> rfl
theorem own_slice' {w : World} {base n s : Nat} {e : TypeId} {v : Value} {xs : List Value} (h : w.ownsRow base e s v n xs) : ∃ a cap, v = .slice a n cap := by
  rcases h.2 with ⟨hv, hn⟩ | ⟨g, cap, _, e, _⟩
  · exact ⟨none, 0, by rw [hv, hn]⟩
  · exact ⟨_, _, e⟩
theorem sclone_calls {w : World} {base : Nat} {sv : Value} {Ps : List (It Int Bool)} (h : w.ownsRow base 62 2 sv Ps.length (flat PF Ps)) (hl : Ps.length ≤ 65536) :
    Calls Try.prog 42 #[sv] w fun e w' => ∃ v, e = .returned v ∧ w'.ownsRow w.heap.size 62 2 v Ps.length (flat PF Ps) ∧ Kp w w' (fun _ => False) := by
  rcases h.2 with ⟨hv, hn⟩ | ⟨g, cap, cur, rfl, _⟩
  · subst hv
    have hR : Ps = [] := List.eq_nil_of_length_eq_zero hn
    subst hR
    have hq : (binOp BinOp.eql 56 (Value.slice none 0 0) (Value.slice none 0 0)).run Try.prog w = .ok (.bool true) w := by kernel_rfl
    clear h hn hl
    go_enter Try.func42, Try.ntmps42
    go_wp2
    go_ret
    exact ⟨_, rfl, ⟨rfl, .inl ⟨rfl, rfl⟩⟩, Kp.refl _ _⟩
  · have HH := Aside0.mk h
    have HFL : Aside0 ((flat PF Ps).length = Ps.length * 2) := ⟨flat_len PF Ps⟩
    have HF1 := Aside0.mk (one_cells Ps)
    obtain ⟨i0, hi0, hz0, hz1, hz2⟩ := info_parts info_pl
    have HZ := Aside0.mk hi0
    have HZ0 := Aside0.mk hz0
    have HZ1 := Aside0.mk hz1
    have HZ2 := Aside0.mk hz2
    clear hi0 hz0 hz1 hz2 h
    have hq : (binOp BinOp.eql 56 (Value.slice (some ⟨g, 0, none⟩) Ps.length cap) (Value.slice none 0 0)).run Try.prog w = .ok (.bool false) w := by kernel_rfl
    go_enter Try.func42, Try.ntmps42
    have hcl : Ps.length ≤ cap := by obtain ⟨_, _, _, h1, _⟩ := own_blk? HH.out; exact h1
    have HE : Aside0 ((w.alloc (.cells #[] 62)).ownsRow w.heap.size 62 2 (.slice (some ⟨w.heap.size, 0, none⟩) 0 0) 0 []) := ⟨rfl, .inr ⟨w.heap.size, 0, #[], rfl, Nat.le_refl _, heap_alloc_new _ _, Nat.le_refl _, Nat.zero_le _, rfl, rfl⟩⟩
    have HC : Aside0 (∀ j u, (flat PF Ps)[j]? = some u → (w.alloc (.cells #[] 62)).cell? ((⟨g, 0, none⟩ : Addr).add j) = some u) := ⟨fun j u hu => by rw [add0]; exact cell_alloc (own_cell HH.out j u hu)⟩
    generalize hRl : Ps.length = n at *
    have HRL := Aside0.mk hRl
    clear hRl
    go_wp2_with (at_builtin; refine wpList_append_at rfl (.tmp 5) (.tmp 6) 56 rfl w.heap.size 62 i0 _ 2 16 Try.underlying56 HZ.out HZ0.out HZ1.out HZ2.out rfl (by decide) (.slice (some ⟨w.heap.size, 0, none⟩) 0 0) 0 [] rfl HE.out ⟨g, 0, none⟩ n cap (flat PF Ps) rfl HFL.out HC.out HF1.out (by unfold maxLen; omega) (by omega) (by simp) ?_; intro v' w' hown hgrow hloc; have HO := Aside0.mk hown; have HG := Aside0.mk hgrow; clear hown hgrow hloc)
    obtain ⟨a2, cap2, hv2⟩ := own_slice' HO.out
    subst hv2
    go_ret
    refine ⟨_, rfl, by simpa using HO.out, ((Kp.refl w _).alloc _).then_ (kp_grown HG.out) (fun k hk => .inr ?_)⟩
    cases hk
    exact Nat.le_refl _
theorem all_calls {w0 w : World} {tb hb pb : Nat} {Ps : List (It Int Bool)} {m b : Nat} {held : Int} {S : Nat → Prop} (h : St PF w0 w tb hb pb LV Z m Ps b held S) :
    Calls Try.prog 18 #[.pointer (some ⟨tb, 0, none⟩)] w fun e w' => ∃ Bs cv, e = .returned (.func (.func 43) #[] #[.pointer (some ⟨Bs, 0, none⟩)]) ∧ w'.heap[Bs]? = some (.cells #[cv] 56 (0, 0)) ∧ w.heap.size ≤ Bs ∧ w'.ownsRow w.heap.size 62 2 cv Ps.length (flat PF Ps) ∧ (∀ k, cv.ownBlock = some k → k < Bs) ∧ Kp w w' (fun _ => False) := by
  obtain ⟨sv, pv, L, c, M, P, _⟩ := h.ex
  have hsm : Ps.length ≤ 65536 := Nat.le_trans P.le h.small
  have H0 := Aside0.mk (sclone_calls M.row hsm)
  obtain ⟨a, cap, rfl⟩ := M.slice
  have c1 : w.cell? ⟨tb, 1, none⟩ = some (.slice a Ps.length cap) := (blk_cell M.head 1).trans rfl
  clear M P h
  go_enter Try.func18, Try.ntmps18
  go_wp2_with fail
  refine H0.out.mono ?_
  rintro e w1 ⟨v, rfl, h2, h3⟩
  obtain ⟨a2, cap2, hv2⟩ := own_slice' h2
  have hlt : ∀ k, v.ownBlock = some k → k < w1.heap.size := own_lt h2
  subst hv2
  have ka : Kp w1 (w1.alloc (.cells #[.slice a2 Ps.length cap2] 56)) (fun _ => False) := (Kp.refl _ _).alloc _
  have FIN : Aside0 ((w1.alloc (.cells #[.slice a2 Ps.length cap2] 56)).heap[w1.heap.size]? = some (.cells #[.slice a2 Ps.length cap2] 56 (0, 0)) ∧ w.heap.size ≤ w1.heap.size ∧ (w1.alloc (.cells #[.slice a2 Ps.length cap2] 56)).ownsRow w.heap.size 62 2 (.slice a2 Ps.length cap2) Ps.length (flat PF Ps) ∧ (∀ k, (Value.slice a2 Ps.length cap2).ownBlock = some k → k < w1.heap.size) ∧ Kp w (w1.alloc (.cells #[.slice a2 Ps.length cap2] 56)) (fun _ => False)) :=
    ⟨heap_alloc_new _ _, h3.size, row_kp' h2 ka (fun _ _ h => h), hlt, h3.then_ ka (fun _ h => h.elim)⟩
  clear h2 h3 hlt ka c1
  go_wp2
  go_ret
  exact ⟨_, _, rfl, FIN.out⟩
end Go.Proofs.Ytiocnkoogachkaa.Ti
