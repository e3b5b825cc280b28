/- This text walks the heap's functions over keys and ranks of one kind (ii): printed by gen.py. -/
import Derived.Test.YtiocnkoogachkaaHmii
namespace Go.Proofs.Ytiocnkoogachkaa.Hii
open Go.RowKit Go.Proofs.YtiocnkoogachkaaW.PrintWords Go.Proofs.Ytiocnkoogachkaa.Mp Go.Proofs.Ytiocnkoogachkaa.Hp
set_option linter.unusedVariables false
set_option linter.unusedSimpArgs false
set_option maxHeartbeats 4000000 in
set_option maxRecDepth 100000 in
theorem swap_calls (base hb pb : Nat) (lv sv : Value) (L : List (It Int Int)) (c : Int) (w : World) (i j : Nat) (hi : i < L.length) (hj : j < L.length) (R : Rep F w base hb pb lv sv L c) :
    Calls Try.prog 48 #[.pointer (some ⟨hb, 0, none⟩), .int .i64 i, .int .i64 j] w fun e w' => e = .returned (.tuple #[]) ∧ Rep F w' base hb pb lv sv (swp L i j) c ∧ Kp w w' (fun k => k = pb ∨ sv.ownBlock = some k) := by
  obtain ⟨x, hx⟩ : ∃ x, L[i]? = some x := ⟨_, List.getElem?_eq_getElem hi⟩
  obtain ⟨y, hy⟩ : ∃ y, L[j]? = some y := ⟨_, List.getElem?_eq_getElem hj⟩
  obtain ⟨g, cap, rfl⟩ : ∃ g cap, sv = .slice (some ⟨g, 0, none⟩) L.length cap := by
    rcases R.own.2 with ⟨_, h⟩ | ⟨g, cap, _, h, _⟩
    · omega
    · exact ⟨g, cap, h⟩
  have c1 : w.cell? ⟨hb, 1, none⟩ = some (.slice (some ⟨g, 0, none⟩) L.length cap) := (blk_cell R.head 1).trans rfl
  have c2 : w.cell? ⟨hb, 2, none⟩ = some (.map (some pb)) := (blk_cell R.head 2).trans rfl
  have i0 : w.cell? ⟨g, i * 3, none⟩ = some (.int .i64 x.key) := own_cell R.own _ _ ((flat_get F L i 0 x hx (by decide)).trans rfl)
  have fi0 : w.frozen? ⟨g, i * 3, none⟩ = false := own_frozen R.own _
  have i1 : w.cell? ⟨g, i * 3 + 1, none⟩ = some (.int .i64 x.rank) := own_cell R.own _ _ ((flat_get F L i 1 x hx (by decide)).trans rfl)
  have fi1 : w.frozen? ⟨g, i * 3 + 1, none⟩ = false := own_frozen R.own _
  have i2 : w.cell? ⟨g, i * 3 + 2, none⟩ = some (.int .i64 x.came) := own_cell R.own _ _ ((flat_get F L i 2 x hx (by decide)).trans rfl)
  have fi2 : w.frozen? ⟨g, i * 3 + 2, none⟩ = false := own_frozen R.own _
  have j0 : w.cell? ⟨g, j * 3, none⟩ = some (.int .i64 y.key) := own_cell R.own _ _ ((flat_get F L j 0 y hy (by decide)).trans rfl)
  have fj0 : w.frozen? ⟨g, j * 3, none⟩ = false := own_frozen R.own _
  have j1 : w.cell? ⟨g, j * 3 + 1, none⟩ = some (.int .i64 y.rank) := own_cell R.own _ _ ((flat_get F L j 1 y hy (by decide)).trans rfl)
  have fj1 : w.frozen? ⟨g, j * 3 + 1, none⟩ = false := own_frozen R.own _
  have j2 : w.cell? ⟨g, j * 3 + 2, none⟩ = some (.int .i64 y.came) := own_cell R.own _ _ ((flat_get F L j 2 y hy (by decide)).trans rfl)
  have fj2 : w.frozen? ⟨g, j * 3 + 2, none⟩ = false := own_frozen R.own _
  have hgh : g ≠ hb := by
    obtain ⟨cur, hg, _⟩ := own_blk? R.own
    exact blk_ne hg R.head (by decide)
  have MID := fun (W : World) h => Aside0.mk (swap_mid (W := W) R hx hy h)
  have HM := Aside0.mk MID
  have HX := Aside0.mk hx
  have HY := Aside0.mk hy
  clear MID R hx hy
  generalize hn : L.length = n at *
  clear hn

  have e0 : ∀ a0 a1 a2, ((((w.setCell ⟨g, i * 3, none⟩ (a0)).setCell ⟨g, i * 3 + 1, none⟩ (a1)).setCell ⟨g, i * 3 + 2, none⟩ (a2))).cell? ⟨g, j * 3, none⟩ = some (if i = j then a0 else .int .i64 y.key) := by
    intro a0 a1 a2
    by_cases hij : i = j
    · subst hij
      rw [if_pos rfl]
      rw [World.cell?_setCell_other _ _ _ _ (by intro e; simp only [Addr.mk.injEq] at e; omega), World.cell?_setCell_other _ _ _ _ (by intro e; simp only [Addr.mk.injEq] at e; omega)]
      refine World.cell?_setCell_same (u := .int .i64 x.key) _ _ _ ?_
      exact i0
    · rw [if_neg hij, World.cell?_setCell_other _ _ _ _ (by intro e; simp only [Addr.mk.injEq] at e; omega), World.cell?_setCell_other _ _ _ _ (by intro e; simp only [Addr.mk.injEq] at e; omega), World.cell?_setCell_other _ _ _ _ (by intro e; simp only [Addr.mk.injEq] at e; omega)]
      exact j0
  have e1 : ∀ a0 a1 a2, ((((w.setCell ⟨g, i * 3, none⟩ (a0)).setCell ⟨g, i * 3 + 1, none⟩ (a1)).setCell ⟨g, i * 3 + 2, none⟩ (a2))).cell? ⟨g, j * 3 + 1, none⟩ = some (if i = j then a1 else .int .i64 y.rank) := by
    intro a0 a1 a2
    by_cases hij : i = j
    · subst hij
      rw [if_pos rfl]
      rw [World.cell?_setCell_other _ _ _ _ (by intro e; simp only [Addr.mk.injEq] at e; omega)]
      refine World.cell?_setCell_same (u := .int .i64 x.rank) _ _ _ ?_
      rw [World.cell?_setCell_other _ _ _ _ (by intro e; simp only [Addr.mk.injEq] at e; omega)]
      exact i1
    · rw [if_neg hij, World.cell?_setCell_other _ _ _ _ (by intro e; simp only [Addr.mk.injEq] at e; omega), World.cell?_setCell_other _ _ _ _ (by intro e; simp only [Addr.mk.injEq] at e; omega), World.cell?_setCell_other _ _ _ _ (by intro e; simp only [Addr.mk.injEq] at e; omega)]
      exact j1
  have e2 : ∀ a0 a1 a2, ((((w.setCell ⟨g, i * 3, none⟩ (a0)).setCell ⟨g, i * 3 + 1, none⟩ (a1)).setCell ⟨g, i * 3 + 2, none⟩ (a2))).cell? ⟨g, j * 3 + 2, none⟩ = some (if i = j then a2 else .int .i64 y.came) := by
    intro a0 a1 a2
    by_cases hij : i = j
    · subst hij
      rw [if_pos rfl]
      refine World.cell?_setCell_same (u := .int .i64 x.came) _ _ _ ?_
      rw [World.cell?_setCell_other _ _ _ _ (by intro e; simp only [Addr.mk.injEq] at e; omega), World.cell?_setCell_other _ _ _ _ (by intro e; simp only [Addr.mk.injEq] at e; omega)]
      exact i2
    · rw [if_neg hij, World.cell?_setCell_other _ _ _ _ (by intro e; simp only [Addr.mk.injEq] at e; omega), World.cell?_setCell_other _ _ _ _ (by intro e; simp only [Addr.mk.injEq] at e; omega), World.cell?_setCell_other _ _ _ _ (by intro e; simp only [Addr.mk.injEq] at e; omega)]
      exact j2
  go_enter Try.func48, Try.ntmps48
  go_wp2
  go_region
  generalize hW : World.drew _ = W
  clear c1 c2 i0 fi0 i1 fi1 i2 fi2 j0 fj0 j1 fj1 j2 fj2
  clear e0 e1 e2
  obtain ⟨n1, n2, u, W2, W3, m1, s1, m2, s2, ⟨c1a, c2a, kia, kja⟩, ⟨c1b, c2b, kib, kjb⟩, FIN⟩ := (HM.out W hW).out
  clear HM hW HX HY
  go_wp2
  go_region
  go_end0
  exact ⟨rfl, FIN.out⟩
end Go.Proofs.Ytiocnkoogachkaa.Hii
