/- This text says how the law's two sets and their references lie beside each other (uint8), and what the calls on them answer. -/
import Derived.Test.YtbaciaolhfmfkaaSzu8
import Derived.Test.YtbaciaolhfmfkaaRh
import Derived.Test.YtbaciaolhfmfkaaOp
namespace Go.Proofs.Ytbaciaolhfmfkaa.Su8
open Go.RowKit Go.Proofs.YtbaciaolhfmfkaaW.PrintWords Go.Proofs.Ytbaciaolhfmfkaa.Mp Go.Proofs.Ytbaciaolhfmfkaa.Ow Go.Proofs.Ytbaciaolhfmfkaa.Sp Go.Proofs.Ytbaciaolhfmfkaa.Rf Go.Proofs.Ytbaciaolhfmfkaa.Op Go.Proofs.Ytbaciaolhfmfkaa.PSpansBytes
set_option linter.unusedVariables false
set_option maxRecDepth 100000
/-- A list of runs that was told. -/
def RV (w : World) (v : Value) (R : List Run) : Prop := ∃ A c, v = .slice A (ofR R).length c ∧ (ofR R).length ≤ c ∧ Kd.C k42 w A (ofR R).length (ofR R)
theorem RV.stay {w w2 : World} {v : Value} {R : List Run} (h : RV w v R) (k : Kp w w2 (fun _ => False)) : RV w2 v R := by
  obtain ⟨A, c, h1, h2, h3⟩ := h
  exact ⟨A, c, h1, h2, Kd.C_below h3 k.to_below⟩
theorem RV.slice {w : World} {v : Value} {R : List Run} (h : RV w v R) : ∃ A c, v = .slice A R.length c := by
  obtain ⟨A, c, h1, _⟩ := h
  exact ⟨A, c, by rw [h1, ofR_len]⟩
theorem RV.cells {w : World} {v : Value} {R : List Run} (h : RV w v R) {i : Nat} (hi : i < R.length) : ∃ a c, v = .slice (some a) R.length c ∧ w.cell? (a.add (i * 2)) = some (.int .i64 R[i].1) ∧ w.cell? ⟨(a.add (i * 2)).block, (a.add (i * 2)).off + 1, none⟩ = some (.int .i64 R[i].2) := by
  obtain ⟨A, c, h1, h2, h3⟩ := h
  obtain ⟨ad, e, c0, c1⟩ := at_T42 h3 (i : Int) (by omega) (by rw [ofR_len]; omega)
  rw [ofR_get hi, Int.toNat_natCast] at c0 c1
  subst e
  exact ⟨ad, c, by rw [h1, ofR_len], c0, c1⟩
theorem psame {w : World} {v u : Value} {R S : List Run} (h : RV w v R) (h2 : RV w u S) (hl : R.length ≤ 4398046511104) :
    Calls Try.prog 21 #[v, u] w fun e w' => e = .returned (.bool (decide (R = S))) ∧ Kp w w' (fun _ => False) := by
  obtain ⟨A, c, rfl, h3, h4⟩ := h
  obtain ⟨B, d, rfl, h5, h6⟩ := h2
  refine (brambleref02_Same.calls _ A c (ofR R) B d (ofR S) _ w h4 h3 h6 h5 (same_f R S hl (R.length + 1) (by omega))).mono ?_
  rintro e w' ⟨rfl, hd⟩
  exact ⟨rfl, Kp.of_below hd.below _⟩
theorem ptold {w : World} {base p : Nat} {sv : Value} {R : List Run} (h : SetAt w base p sv R) (hl : R.length ≤ 4398046511104) :
    Calls Try.prog 18 #[.pointer (some ⟨p, 0, none⟩)] w fun e w' => ∃ v, e = .returned v ∧ RV w' v R ∧ Kp w w' (fun _ => False) := by
  refine (told_calls h hl).mono ?_
  rintro e w' ⟨v, rfl, ho, hk⟩
  exact ⟨v, rfl, row_C ho hl, hk⟩
/-- A reference's list of acts. -/
structure AV (w : World) (base : Nat) (v : Value) (acts : List S98) : Prop where
  row : Kd.R k98 98 w base (fun _ => True) v acts
theorem AV.stay {w w2 : World} {base : Nat} {v : Value} {acts : List S98} (h : AV w base v acts) (k : Kp w w2 (fun _ => False)) : AV w2 base v acts := ⟨Kd.R_below h.row k.to_below⟩
theorem AV.kept {w w2 : World} {base : Nat} {v : Value} {acts : List S98} {S : Nat → Prop} (h : AV w base v acts) (k : Kp w w2 S) (hS : ∀ q, S q → ∃ cells t, w.heap[q]? = some (.cells cells t (0, 0)) ∧ t ≠ 98) : AV w2 base v acts := by
  refine ⟨Kd.R_mono (Kd.R_step (Kd.R_bound h.row) (fun q hq hlt => k.keep q hlt (fun hs => ?_))) (fun _ _ => trivial)⟩
  obtain ⟨_, _, _, t, ht, cells, hc⟩ := hq
  obtain ⟨cells2, t2, hc2, hne⟩ := hS q hs
  rw [hc] at hc2
  injection hc2 with hc2
  injection hc2 with _ hc2
  have ht98 : t = 98 := by simpa [k98, Kd.iso, Kd.pair, Kd.bool, Kd.int, Kd.scalar] using ht
  exact hne (hc2.symm.trans ht98)
theorem pruns {w : World} {base : Nat} {v : Value} {R : List Run} {acts : List S98} (h : AV w base v acts) (hr : Rel tMin tMax R acts) (hl : acts.length ≤ 2199023255552) :
    Calls Try.prog 38 #[.agg #[v, .int .i64 tMax]] w fun e w' => ∃ u, e = .returned u ∧ RV w' u R ∧ Kp w w' (fun _ => False) := by
  obtain ⟨A, c, he⟩ := Kd.R_slice h.row
  subst he
  have h2 := Kd.R_reads' h.row
  obtain ⟨K, hK⟩ := hr.runs (by unfold tMax; omega) (by unfold tMin; omega) hl
  refine (brambleref02_Runs.calls K A c acts tMax (ofR R) w h2.2.2 h2.2.1 (hK K (Nat.le_refl _))).mono ?_
  rintro e w' ⟨u, rfl, hR, hB⟩
  obtain ⟨A', c', he⟩ := Kd.R_slice hR
  subst he
  have h3 := Kd.R_reads' hR
  exact ⟨_, rfl, ⟨A', c', rfl, h3.2.1, h3.2.2⟩, Kp.of_below hB _⟩
theorem pdone {w : World} {base : Nat} {v : Value} {acts : List S98} (h : AV w base v acts) (a : Bool) (lo hi : Int) (hl : acts.length ≤ 4398046511104) (hb : base ≤ w.heap.size) :
    Calls Try.prog 39 #[.agg #[v, .int .i64 tMax], .bool a, .int .i64 lo, .int .i64 hi] w fun e w' => ∃ u, e = .returned (.agg #[u, .int .i64 tMax]) ∧ AV w' base u (acts ++ [⟨a, lo, hi⟩]) ∧ Kp w w' (fun _ => False) := by
  obtain ⟨A, c, he⟩ := Kd.R_slice h.row
  subst he
  have h2 := Kd.R_reads' h.row
  refine (brambleref02_Done.calls A c acts tMax a lo hi _ _ w h2.2.2 h2.2.1 (done_f a lo hi hl)).mono ?_
  rintro e w' ⟨u, rfl, hR, hB⟩
  exact ⟨u, rfl, ⟨Kd.R_lower hR hb⟩, Kp.of_below hB _⟩
theorem phas {w : World} {base : Nat} {v : Value} {R : List Run} {acts : List S98} (h : AV w base v acts) (hr : Rel tMin tMax R acts) (hl : acts.length ≤ 2199023255552) (x : Int) (hx : x ≤ tMax) :
    Calls Try.prog 41 #[.agg #[v, .int .i64 tMax], .int .i64 x] w fun e w' => e = .returned (.bool (holdsB R x x)) ∧ Kp w w' (fun _ => False) := by
  obtain ⟨A, c, he⟩ := Kd.R_slice h.row
  subst he
  have h2 := Kd.R_reads' h.row
  obtain ⟨K, hK⟩ := hr.has (by omega) x hx
  refine (brambleref02_Has.calls K A c acts tMax x _ w h2.2.2 h2.2.1 hK).mono ?_
  rintro e w' ⟨rfl, hB⟩
  exact ⟨rfl, Kp.of_below hB _⟩
theorem pholds {w : World} {base : Nat} {v : Value} {R : List Run} {acts : List S98} (h : AV w base v acts) (hr : Rel tMin tMax R acts) (hl : acts.length ≤ 2199023255552) (hb : R.length ≤ 4398046511104) (lo hi : Int) :
    Calls Try.prog 43 #[.agg #[v, .int .i64 tMax], .int .i64 lo, .int .i64 hi] w fun e w' => e = .returned (.bool (holdsB R lo hi)) ∧ Kp w w' (fun _ => False) := by
  obtain ⟨A, c, he⟩ := Kd.R_slice h.row
  subst he
  have h2 := Kd.R_reads' h.row
  obtain ⟨K, hK⟩ := hr.holds (by unfold tMax; omega) (by unfold tMin; omega) hl hb lo hi
  refine (brambleref02_Holds.calls K A c acts tMax lo hi _ w h2.2.2 h2.2.1 hK).mono ?_
  rintro e w' ⟨rfl, hB⟩
  exact ⟨rfl, Kp.of_below hB _⟩
theorem pmeets {w : World} {base : Nat} {v : Value} {R : List Run} {acts : List S98} (h : AV w base v acts) (hr : Rel tMin tMax R acts) (hl : acts.length ≤ 2199023255552) (hb : R.length ≤ 4398046511104) (lo hi : Int) :
    Calls Try.prog 45 #[.agg #[v, .int .i64 tMax], .int .i64 lo, .int .i64 hi] w fun e w' => e = .returned (.bool (meetsB R lo hi)) ∧ Kp w w' (fun _ => False) := by
  obtain ⟨A, c, he⟩ := Kd.R_slice h.row
  subst he
  have h2 := Kd.R_reads' h.row
  obtain ⟨K, hK⟩ := hr.meets (by unfold tMax; omega) (by unfold tMin; omega) hl hb lo hi
  refine (brambleref02_Meets.calls K A c acts tMax lo hi _ w h2.2.2 h2.2.1 hK).mono ?_
  rintro e w' ⟨rfl, hB⟩
  exact ⟨rfl, Kp.of_below hB _⟩
theorem pnext {w : World} {base : Nat} {v : Value} {R : List Run} {acts : List S98} (h : AV w base v acts) (hr : Rel tMin tMax R acts) (hl : acts.length ≤ 2199023255552) (hb : R.length ≤ 4398046511104) (x : Int) :
    Calls Try.prog 46 #[.agg #[v, .int .i64 tMax], .int .i64 x] w fun e w' => e = .returned (.tuple #[.int .i64 ((nextI R x).getD 0), .bool (nextI R x).isSome]) ∧ Kp w w' (fun _ => False) := by
  obtain ⟨A, c, he⟩ := Kd.R_slice h.row
  subst he
  have h2 := Kd.R_reads' h.row
  obtain ⟨K, hK⟩ := hr.next (by unfold tMax; omega) (by unfold tMin; omega) hl hb x
  refine (brambleref02_Next.calls K A c acts tMax x _ _ w h2.2.2 h2.2.1 hK).mono ?_
  rintro e w' ⟨rfl, hB⟩
  exact ⟨rfl, Kp.of_below hB _⟩
/-- The two sets and their references in memory, seen from set k. -/
structure Pl (w wr : World) (sb rb k pk po : Nat) (sk so vk vo : Value) (Rk Ro : List Run) (Ak Ao : List S98) : Prop where
  sets : wr.heap[sb]? = some (.cells (if k = 0 then #[.pointer (some ⟨pk, 0, none⟩), .pointer (some ⟨po, 0, none⟩)] else #[.pointer (some ⟨po, 0, none⟩), .pointer (some ⟨pk, 0, none⟩)]) 23 (0, 0))
  refs : wr.heap[rb]? = some (.cells (if k = 0 then #[vk, .int .i64 tMax, vo, .int .i64 tMax] else #[vo, .int .i64 tMax, vk, .int .i64 tMax]) 68 (0, 0))
  setk : SetAt wr w.heap.size pk sk Rk
  seto : SetAt wr w.heap.size po so Ro
  avk : AV wr w.heap.size vk Ak
  avo : AV wr w.heap.size vo Ao
  ne : pk ≠ po
  sbb : w.heap.size ≤ sb
  rbb : w.heap.size ≤ rb
  kept : Kp w wr (fun _ => False)
/-- What they are. -/
structure Pr (Rk Ro : List Run) (Ak Ao : List S98) (n : Nat) : Prop where
  relk : Rel tMin tMax Rk Ak
  relo : Rel tMin tMax Ro Ao
  lenk : Rk.length ≤ 2 ^ n ∧ Ak.length ≤ 2 ^ n
  leno : Ro.length ≤ 2 ^ n ∧ Ao.length ≤ 2 ^ n
theorem Pr.swap {Rk Ro : List Run} {Ak Ao : List S98} {n : Nat} (h : Pr Rk Ro Ak Ao n) : Pr Ro Rk Ao Ak n := ⟨h.relo, h.relk, h.leno, h.lenk⟩
theorem pow_up (n : Nat) : 2 ^ (n + 1) = 2 ^ n + 2 ^ n := by rw [Nat.pow_succ]; omega
theorem pow_one (n : Nat) : 1 ≤ 2 ^ n := Nat.one_le_two_pow
theorem pow_most {n : Nat} (h : n ≤ 40) : 2 ^ n ≤ 1099511627776 := Nat.le_trans (Nat.pow_le_pow_right (by omega) h) (by decide)
theorem Pr.up {Rk Ro : List Run} {Ak Ao : List S98} {n : Nat} (h : Pr Rk Ro Ak Ao n) : Pr Rk Ro Ak Ao (n + 1) := by
  have := pow_up n
  exact ⟨h.relk, h.relo, by have := h.lenk; omega, by have := h.leno; omega⟩
section
variable {w wr w2 : World} {sb rb k pk po n : Nat} {sk so vk vo : Value} {Rk Ro : List Run} {Ak Ao : List S98}
theorem Pl.stay (h : Pl w wr sb rb k pk po sk so vk vo Rk Ro Ak Ao) (K : Kp wr w2 (fun _ => False)) : Pl w w2 sb rb k pk po sk so vk vo Rk Ro Ak Ao :=
  ⟨blk_kp h.sets K (fun h => h), blk_kp h.refs K (fun h => h), h.setk.stay K, h.seto.stay K, h.avk.stay K, h.avo.stay K, h.ne, h.sbb, h.rbb, h.kept.then_ K (fun _ h => .inl h)⟩
theorem Pl.swap (h : Pl w wr sb rb 0 pk po sk so vk vo Rk Ro Ak Ao) : Pl w wr sb rb 1 po pk so sk vo vk Ro Rk Ao Ak :=
  ⟨h.sets, h.refs, h.seto, h.setk, h.avo, h.avk, h.ne.symm, h.sbb, h.rbb, h.kept⟩
theorem Pl.back (h : Pl w wr sb rb 1 pk po sk so vk vo Rk Ro Ak Ao) : Pl w wr sb rb 0 po pk so sk vo vk Ro Rk Ao Ak :=
  ⟨h.sets, h.refs, h.seto, h.setk, h.avo, h.avk, h.ne.symm, h.sbb, h.rbb, h.kept⟩
structure Cl (wr : World) (sb rb k pk po : Nat) (vk vo : Value) : Prop where
  c0 : wr.cell? ⟨sb, k, none⟩ = some (.pointer (some ⟨pk, 0, none⟩))
  c1 : wr.cell? ⟨sb, 1 - k, none⟩ = some (.pointer (some ⟨po, 0, none⟩))
  c2 : wr.cell? ⟨rb, k * 2, none⟩ = some vk
  c3 : wr.cell? ⟨rb, k * 2 + 1, none⟩ = some (.int .i64 tMax)
  c4 : wr.cell? ⟨rb, (1 - k) * 2, none⟩ = some vo
  c5 : wr.cell? ⟨rb, (1 - k) * 2 + 1, none⟩ = some (.int .i64 tMax)
theorem Pl.cells (h : Pl w wr sb rb k pk po sk so vk vo Rk Ro Ak Ao) (hk : k ≤ 1) : Cl wr sb rb k pk po vk vo := by
  have hk2 : k = 0 ∨ k = 1 := by omega
  rcases hk2 with rfl | rfl
  · exact ⟨(blk_cell h.sets 0).trans rfl, (blk_cell h.sets 1).trans rfl, (blk_cell h.refs 0).trans rfl, (blk_cell h.refs 1).trans rfl, (blk_cell h.refs 2).trans rfl, (blk_cell h.refs 3).trans rfl⟩
  · exact ⟨(blk_cell h.sets 1).trans rfl, (blk_cell h.sets 0).trans rfl, (blk_cell h.refs 2).trans rfl, (blk_cell h.refs 3).trans rfl, (blk_cell h.refs 0).trans rfl, (blk_cell h.refs 1).trans rfl⟩
theorem row_type_ne {W : World} {b s m q : Nat} {v : Value} {e t : TypeId} {xs : List Value} {cells : Array Value} (h : W.ownsRow b e s v m xs) (h2 : W.heap[q]? = some (.cells cells t (0, 0))) (hne : e ≠ t) : v.ownBlock ≠ some q := by
  intro h4
  rcases h.2 with ⟨hv, _⟩ | ⟨g, cap, cur, rfl, _, hg, _⟩
  · rw [hv] at h4; cases h4
  · cases h4
    exact absurd rfl (blk_ne hg h2 hne)
/-- The set k written. -/
theorem Pl.wrote (h : Pl w wr sb rb k pk po sk so vk vo Rk Ro Ak Ao) (K : Kp wr w2 (fun q => q = pk)) {sk2 : Value} {R2 : List Run} (h2 : SetAt w2 w.heap.size pk sk2 R2) : Pl w w2 sb rb k pk po sk2 so vk vo R2 Ro Ak Ao := by
  have hs : sb ≠ pk := blk_ne h.sets h.setk.head (by decide)
  have hr2 : rb ≠ pk := blk_ne h.refs h.setk.head (by decide)
  have hk98 : ∀ q, q = pk → ∃ cells t, wr.heap[q]? = some (.cells cells t (0, 0)) ∧ t ≠ 98 := fun q hq => by rw [hq]; exact ⟨_, _, h.setk.head, by decide⟩
  exact ⟨blk_kp h.sets K hs, blk_kp h.refs K hr2, h2, h.seto.kept K (fun e => h.ne e.symm) (fun b hb e => row_type_ne h.seto.own h.setk.head (by decide) (by rw [← e]; exact hb)), h.avk.kept K hk98, h.avo.kept K hk98, h.ne, h.sbb, h.rbb, h.kept.then_ K (fun q hq => .inr (by have := h.setk.pbase; omega))⟩
/-- The reference k written. -/
theorem Pl.ref (h : Pl w wr sb rb k pk po sk so vk vo Rk Ro Ak Ao) (hk : k ≤ 1) {v : Value} {A2 : List S98} (hv : AV wr w.heap.size v A2) (hW : (wr.setCell ⟨rb, k * 2, none⟩ v).setCell ⟨rb, k * 2 + 1, none⟩ (.int .i64 tMax) = w2) : Pl w w2 sb rb k pk po sk so v vo Rk Ro A2 Ao := by
  have K : Kp wr w2 (fun q => q = rb) := by rw [← hW]; exact (kp_put _).then_ (kp_put _) (fun k hk => .inl hk)
  have h98 : ∀ q, q = rb → ∃ cells t, wr.heap[q]? = some (.cells cells t (0, 0)) ∧ t ≠ 98 := fun q hq => by rw [hq]; exact ⟨_, _, h.refs, by decide⟩
  refine ⟨blk_kp h.sets K (blk_ne h.sets h.refs (by decide)), ?_, h.setk.kept K (blk_ne h.setk.head h.refs (by decide)) (fun b hb e => row_type_ne h.setk.own h.refs (by decide) (by rw [← e]; exact hb)), h.seto.kept K (blk_ne h.seto.head h.refs (by decide)) (fun b hb e => row_type_ne h.seto.own h.refs (by decide) (by rw [← e]; exact hb)), hv.kept K h98, h.avo.kept K h98, h.ne, h.sbb, h.rbb, h.kept.then_ K (fun q hq => .inr (by have := h.rbb; omega))⟩
  have hk2 : k = 0 ∨ k = 1 := by omega
  rcases hk2 with rfl | rfl
  · rw [← hW]
    exact blk_put (blk_put h.refs 0 v rfl) 1 _ rfl
  · rw [← hW]
    exact blk_put (blk_put h.refs 2 v rfl) 3 _ rfl
end
end Go.Proofs.Ytbaciaolhfmfkaa.Su8
