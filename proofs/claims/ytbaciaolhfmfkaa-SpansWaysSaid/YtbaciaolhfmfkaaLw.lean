/- This text walks the law SpansWays: true whatever the calls. -/
import Derived.Test.YtbaciaolhfmfkaaFl
import Derived.Test.YtbaciaolhfmfkaaAw
namespace Go.Proofs.Ytbaciaolhfmfkaa.Lw
open Go.RowKit Go.Proofs.YtbaciaolhfmfkaaW.PrintWords Go.Proofs.Ytbaciaolhfmfkaa.Mp Go.Proofs.Ytbaciaolhfmfkaa.Ow Go.Proofs.Ytbaciaolhfmfkaa.Sp Go.Proofs.Ytbaciaolhfmfkaa.Su8 Go.Proofs.Ytbaciaolhfmfkaa.Op Go.Proofs.Ytbaciaolhfmfkaa.Fl
set_option linter.unusedVariables false
set_option maxRecDepth 100000
theorem cell_ne {w : World} {b n s p : Nat} {v x : Value} {xs : List Value} (h : w.ownsRow b 29 s v n xs) (h2 : w.heap[p]? = some (.cells #[x] 61 (0, 0))) : v.ownBlock ≠ some p := by
  intro h4
  rcases h.2 with ⟨hv, _⟩ | ⟨g, cap, cur, rfl, _, hg, _⟩
  · rw [hv] at h4; cases h4
  · cases h4
    exact absurd rfl (blk_ne hg h2 (by decide))
theorem other {w w' : World} {base b2 p q : Nat} {sv sv2 : Value} {R S : List Run} (h : SetAt w base p sv R) (h2 : SetAt w b2 q sv2 S) (hpq : p ≠ q) (k : Kp w w' (fun k => k = q)) : SetAt w' base p sv R :=
  h.kept k hpq (fun b hb e => cell_ne h.own h2.head (by rw [← e]; exact hb))
theorem row_other {w w' : World} {base b2 q n : Nat} {v sv2 : Value} {xs : List Value} {S : List Run} (h : w.ownsRow base 29 2 v n xs) (h2 : SetAt w b2 q sv2 S) (k : Kp w w' (fun k => k = q)) : w'.ownsRow base 29 2 v n xs :=
  row_kp h k (fun b hb e => cell_ne h h2.head (by rw [← e]; exact hb))
/-- What lies while the runs are cut out. -/
structure St (w wr : World) (p1 p2 p3 : Nat) (s1 s2 : Value) (R S : List Run) (v : Value) (k : Nat) : Prop where
  one : SetAt wr w.heap.size p1 s1 R
  two : SetAt wr w.heap.size p2 s2 S
  three : ∃ s3 U, SetAt wr w.heap.size p3 s3 U ∧ U.length ≤ 80 + k ∧ ∀ y, mem U y ↔ (mem R y ∨ mem S y) ∧ ¬ mem (S.take k) y
  row : wr.ownsRow w.heap.size 29 2 v S.length (flat S)
  kept : Kp w wr (fun _ => False)
theorem St.stay {w wr w2 : World} {p1 p2 p3 k : Nat} {s1 s2 v : Value} {R S : List Run} (h : St w wr p1 p2 p3 s1 s2 R S v k) (K : Kp wr w2 (fun _ => False)) : St w w2 p1 p2 p3 s1 s2 R S v k := by
  obtain ⟨s3, U, h3, h4, h5⟩ := h.three
  exact ⟨h.one.stay K, h.two.stay K, ⟨s3, U, h3.stay K, h4, h5⟩, row_kp h.row K (fun _ _ h => h), h.kept.then_ K (fun _ h => .inl h)⟩
theorem lower_set {w : World} {base b2 p : Nat} {sv : Value} {R : List Run} (h : SetAt w base p sv R) (hb : b2 ≤ base) : SetAt w b2 p sv R := ⟨h.head, row_lower h.own hb, h.good, Nat.le_trans hb h.pbase⟩
theorem bool_iff {a b : Bool} (h : a = true ↔ b = true) : a = b := by cases a <;> cases b <;> simp_all
set_option maxHeartbeats 4000000 in
theorem ways_calls (A : Option Addr) (len cap : Nat) (T : Nat → Rec) (A2 : Option Addr) (len2 cap2 : Nat) (T2 : Nat → Rec) (w : World) (hs : Script w A len T) (hl : len ≤ 9223372036854775807) (hs2 : Script w A2 len2 T2) (hl2 : len2 ≤ 9223372036854775807) :
    Calls Try.prog 8 #[.slice A len cap, .slice A2 len2 cap2] w fun e w' => e = .returned (.bool true) ∧ Kp w w' (fun _ => False) := by
  have HF := Aside0.mk (filled_calls A len cap T w hs hl)
  have HF2 := Aside0.mk (fun w1 (k : Kp w w1 (fun _ => False)) => filled_calls A2 len2 cap2 T2 w1 (hs2.kept k) hl2)
  clear hs hs2
  go_enter Try.func8, Try.ntmps8
  go_wp2_with fail
  refine HF.out.mono ?_
  rintro e w1 ⟨s1, R, rfl, h1, hR, k1⟩
  have K1 := Aside0.mk k1
  have H1 := Aside0.mk h1
  clear h1 k1 HF
  go_wp2_with fail
  refine (HF2.out w1 K1.out).mono ?_
  rintro e w2 ⟨s2, S, rfl, h2, hS, k2⟩
  have H2 := Aside0.mk (And.intro (H1.out.stay k2) (lower_set h2 K1.out.size))
  have K2 := Aside0.mk (K1.out.then_ k2 (fun _ h => .inl h))
  have hp12 : w.heap.size < w1.heap.size := blk_lt H1.out.head
  clear h2 k2 H1 HF2
  obtain ⟨p1, hp1⟩ : ∃ p, w.heap.size = p := ⟨_, rfl⟩
  obtain ⟨p2, hp2⟩ : ∃ p, w1.heap.size = p := ⟨_, rfl⟩
  rw [hp1, hp2] at hp12
  have HP1 := Aside0.mk hp1
  rw [hp2, hp1] at H2 ⊢
  have H2 : Aside0 (SetAt w2 w.heap.size p1 s1 R ∧ SetAt w2 w.heap.size p2 s2 S) := ⟨by rw [hp1]; exact H2.out⟩
  clear hp1 hp2 K1
  go_wp2_with fail
  refine (Aw.awake_calls w2).mono ?_
  rintro e w3 ⟨rfl, k3⟩
  have H3 := Aside0.mk (And.intro (H2.out.1.stay k3) (H2.out.2.stay k3))
  have K3 := Aside0.mk (K2.out.then_ k3 (fun _ h => .inl h))
  clear k3 H2 K2
  go_wp2_with fail
  refine (clone_calls H3.out.1 (by omega)).mono ?_
  rintro e w4 ⟨p3, s3, rfl, h4, k4, _⟩
  have hp3 : w3.heap.size ≤ p3 := h4.pbase
  have hq1 : p1 < w3.heap.size := blk_lt H3.out.1.head
  have hq2 : p2 < w3.heap.size := blk_lt H3.out.2.head
  have H4 := Aside0.mk (And.intro (H3.out.1.stay k4) (And.intro (H3.out.2.stay k4) (lower_set h4 K3.out.size)))
  have K4 := Aside0.mk (K3.out.then_ k4 (fun _ h => .inl h))
  have hp4 : p3 < w4.heap.size := blk_lt h4.head
  have hsz : w3.heap.size ≤ w4.heap.size := k4.size
  clear h4 k4 H3 K3
  go_wp2_with fail
  refine (clone_calls H4.out.2.1 (by omega)).mono ?_
  rintro e w5 ⟨p4, s4, rfl, h5, k5, _⟩
  have hp5 : w4.heap.size ≤ p4 := h5.pbase
  have H5 := Aside0.mk (And.intro (H4.out.1.stay k5) (And.intro (H4.out.2.1.stay k5) (And.intro (H4.out.2.2.stay k5) (lower_set h5 K4.out.size))))
  have K5 := Aside0.mk (K4.out.then_ k5 (fun _ h => .inl h))
  have HNE := Aside0.mk (show p1 ≠ p3 ∧ p2 ≠ p3 ∧ p1 ≠ p4 ∧ p2 ≠ p4 ∧ p3 ≠ p4 ∧ p1 ≠ p2 from ⟨by omega, by omega, by omega, by omega, by omega, by omega⟩)
  have HGE := Aside0.mk (show w.heap.size ≤ p3 ∧ w.heap.size ≤ p4 from ⟨H4.out.2.2.pbase, H5.out.2.2.2.pbase⟩)
  clear h5 k5 H4 K4 hp3 hq1 hq2 hp4 hsz hp5 hp12
  go_wp2_with fail
  refine (join_calls H5.out.2.2.1 H5.out.2.1 (by omega) K5.out.size).mono ?_
  rintro e w6 ⟨b6, U, s6, rfl, h6, hU, hUl, _, k6⟩
  have H6 := Aside0.mk (And.intro (other H5.out.1 H5.out.2.2.1 HNE.out.1 k6) (And.intro (other H5.out.2.1 H5.out.2.2.1 HNE.out.2.1 k6) (And.intro h6 (other H5.out.2.2.2 H5.out.2.2.1 HNE.out.2.2.2.2.1.symm k6))))
  have K6 := Aside0.mk (K5.out.then_ k6 (fun k hk => .inr (by have := HGE.out.1; omega)))
  have HU := Aside0.mk hU
  have hUl2 : U.length ≤ 80 := by omega
  clear h6 k6 H5 K5 hU hUl
  go_wp2_with fail
  refine (join_calls H6.out.2.2.2 H6.out.1 (by omega) K6.out.size).mono ?_
  rintro e w7 ⟨b7, V, s7, rfl, h7, hV, hVl, _, k7⟩
  have H7 := Aside0.mk (And.intro (other H6.out.1 H6.out.2.2.2 HNE.out.2.2.1 k7) (And.intro (other H6.out.2.1 H6.out.2.2.2 HNE.out.2.2.2.1 k7) (And.intro (other H6.out.2.2.1 H6.out.2.2.2 HNE.out.2.2.2.2.1 k7) h7)))
  have K7 := Aside0.mk (K6.out.then_ k7 (fun k hk => .inr (by have := HGE.out.2; omega)))
  have HUV : Aside0 (U = V) := ⟨Good.unique H7.out.2.2.1.good h7.good (fun y => by rw [HU.out, hV]; exact Or.comm)⟩
  clear h7 k7 H6 K6 hV
  go_wp2_with fail
  refine (same_calls H7.out.2.2.1 H7.out.2.2.2 (by omega) (by omega)).mono ?_
  rw [show decide (U = V) = true from decide_eq_true HUV.out]
  rintro e w8 ⟨rfl, n8, hn8⟩
  have k8 : Kp w7 w8 (fun _ => False) := by rw [hn8]; exact Kp.drewN (Kp.refl _ _) _
  have H8 := Aside0.mk (And.intro (H7.out.1.stay k8) (And.intro (H7.out.2.1.stay k8) (H7.out.2.2.1.stay k8)))
  have K8 := Aside0.mk (K7.out.then_ k8 (fun _ h => .inl h))
  clear hn8 k8 H7 K7 HUV hVl
  go_wp2_with fail
  refine (runs_calls H8.out.2.1 (by omega)).mono ?_
  rintro e w9 ⟨v, rfl, ho, k9⟩
  have HS : Aside0 (St w w9 p1 p2 p3 s1 s2 R S v 0) := ⟨H8.out.1.stay k9, H8.out.2.1.stay k9, ⟨s6, U, H8.out.2.2.stay k9, by omega, fun y => by rw [HU.out, List.take_zero]; exact ⟨fun h => ⟨h, mem_nil y⟩, fun h => h.1⟩⟩, row_lower ho K8.out.size, K8.out.then_ k9 (fun _ h => .inl h)⟩
  obtain ⟨a, cp, hv, _⟩ := Su8.own_slice ho
  subst hv
  obtain ⟨n, hn⟩ : ∃ n, S.length = n := ⟨_, rfl⟩
  have HN := Aside0.mk hn
  rw [hn] at HS hS ⊢
  clear ho k9 H8 K8 hn
  go_wp2_with fail
  go_loopw [49] (fun iv wr => ∃ k : Nat, k ≤ n ∧ iv = .int .i64 k ∧ Aside0 (St w wr p1 p2 p3 s1 s2 R S (.slice a n cp) k)) (fun iv _ => n - (intOf iv).toNat)
  case atStart => exact ⟨0, by omega, rfl, HS⟩
  case round =>
    clear HS
    obtain ⟨k, hk, rfl, HS⟩ := hrel
    by_cases hlt : k < n
    · have hkl : k < S.length := by rw [HN.out]; omega
      have hr : S[k]? = some (S.getD k (0, 0)) := by rw [List.getElem?_eq_getElem hkl]; simp [hkl]
      obtain ⟨g, rfl, c1, c2⟩ := run_cells HS.out.row hr
      have hb := HS.out.two.good.ok _ (List.mem_of_getElem? hr)
      have HGS := Aside0.mk HS.out.two.good
      generalize S.getD k (0, 0) = r at *
      obtain ⟨r1, r2⟩ := r
      simp only at c1 c2 hb
      have HR := Aside0.mk hr
      have HB := Aside0.mk hb
      clear hr hb hkl
      have k0 : (0 : Int) ≤ (k : Int) := by omega
      have k1 : (k : Int) < (n : Int) := by omega
      obtain ⟨Y, hY⟩ : ∃ Y, wr.heap.size = Y := ⟨_, rfl⟩
      obtain ⟨Wr, hWr⟩ : ∃ Wr, wr.alloc (.cells #[.int .u8 r1, .int .u8 r2] 29) = Wr := ⟨_, rfl⟩
      have HS1 := Aside0.mk (HS.out.stay (w2 := Wr) (by rw [← hWr]; exact (Kp.refl _ _).alloc _))
      have hy : Wr.heap[Y]? = some (.cells #[.int .u8 r1, .int .u8 r2] 29 (0, 0)) := by rw [← hWr, ← hY]; exact heap_alloc_new _ _
      have y0 : Wr.cell? ⟨Y, 0, none⟩ = some (.int .u8 r1) := (blk_cell hy 0).trans rfl
      have y1 : Wr.cell? ⟨Y, 1, none⟩ = some (.int .u8 r2) := (blk_cell hy 1).trans rfl
      obtain ⟨s3, U1, h3, hl3, hm3⟩ := HS1.out.three
      have hno : ∀ y, r1 ≤ y → y ≤ r2 → ¬ mem (S.take k) y := by
        rintro y hy1 hy2 ⟨q, hq, hq1, hq2⟩
        obtain ⟨j, hj⟩ := List.getElem?_of_mem hq
        have hjk : j < k := by
          have := (List.getElem?_eq_some_iff.1 hj).1
          rw [List.length_take] at this
          omega
        rw [List.getElem?_take, if_pos hjk] at hj
        have := HGS.out.lt hjk hj HR.out
        simp only at this
        omega
      have hin : ∀ y, r1 ≤ y → y ≤ r2 → mem U1 y := fun y hy1 hy2 => (hm3 y).2 ⟨.inr ⟨(r1, r2), List.mem_of_getElem? HR.out, hy1, hy2⟩, hno y hy1 hy2⟩
      have Q1 := Aside0.mk ((holdsB_iff h3.good r1 r2).2 hin)
      have H3 := Aside0.mk h3
      have HM3 := Aside0.mk hm3
      have HNO := Aside0.mk hno
      have HHY := Aside0.mk hy
      clear h3 hm3 hin hno hy HS
      go_wp2_with fail
      clear c1 c2 hWr hY
      refine (holds_calls H3.out r1 r2 (by omega)).mono ?_
      rw [Q1.out]
      rintro e w10 ⟨rfl, k10⟩
      have HS2 := Aside0.mk (HS1.out.stay k10)
      have H4 := Aside0.mk (H3.out.stay k10)
      have HY2 := Aside0.mk (blk_kp HHY.out k10 (fun h => h))
      have z0 : w10.cell? ⟨Y, 0, none⟩ = some (.int .u8 r1) := (blk_cell HY2.out 0).trans rfl
      have z1 : w10.cell? ⟨Y, 1, none⟩ = some (.int .u8 r2) := (blk_cell HY2.out 1).trans rfl
      clear k10 y0 y1 HHY HS1 H3 Q1
      go_wp2_with fail
      refine (cut_sem H4.out r1 r2 HB.out.1 HB.out.2.2 (by omega) HS2.out.kept.size).mono ?_
      rintro e w11 ⟨b11, U2, rfl, hL, hm⟩
      obtain ⟨s5, h5, _⟩ := hL.set
      have hlen5 := hL.len
      have HS3 : Aside0 (St w w11 p1 p2 p3 s1 s2 R S (.slice (some ⟨g, 0, none⟩) n cp) (k + 1)) := ⟨by
        refine ⟨other HS2.out.one H4.out HNE.out.1 hL.kept, other HS2.out.two H4.out HNE.out.2.1 hL.kept, ⟨s5, U2, h5, by omega, fun y => ?_⟩, row_other HS2.out.row H4.out hL.kept, HS2.out.kept.then_ hL.kept (fun k hk => .inr (by have := HGE.out.1; omega))⟩
        rw [hm, HM3.out, List.take_add_one, mem_app, HR.out]
        simp only [Option.toList]
        rw [mem_one]
        constructor
        · rintro ⟨⟨h1, h2⟩, h3⟩
          exact ⟨h1, fun h => h.elim h2 h3⟩
        · rintro ⟨h1, h2⟩
          exact ⟨⟨h1, fun h => h2 (.inl h)⟩, fun h => h2 (.inr h)⟩⟩
      have Q2 : Aside0 (meetsB U2 r1 r2 = false) := ⟨by
        cases hq : meetsB U2 r1 r2 with
        | false => rfl
        | true =>
          obtain ⟨y, ha, hb, hc⟩ := (meetsB_iff h5.good r1 r2).1 hq
          exact absurd ⟨ha, hb⟩ ((hm y).1 hc).2⟩
      have HY3 := Aside0.mk (blk_kp HY2.out hL.kept (fun e => by
        subst e
        have h1 := HY2.out
        have h2 := H4.out.head
        exact absurd rfl (blk_ne h1 h2 (by decide))))
      have H5 := Aside0.mk h5
      have v0 : w11.cell? ⟨Y, 0, none⟩ = some (.int .u8 r1) := (blk_cell HY3.out 0).trans rfl
      have v1 : w11.cell? ⟨Y, 1, none⟩ = some (.int .u8 r2) := (blk_cell HY3.out 1).trans rfl
      clear hL hm h5 HS2 H4 HY2 z0 z1 HM3 HNO
      go_wp2_with fail
      refine (meets_calls H5.out r1 r2 (by omega)).mono ?_
      rw [Q2.out]
      rintro e w12 ⟨rfl, k12⟩
      have REL := Aside0.mk (HS3.out.stay k12)
      clear k12 HS3 H5 HY3 v0 v1 Q2
      go_wp2
      go_roundw
      case measure => simp [intOf]; omega
      case rel => exact ⟨k + 1, by omega, by go_num, REL⟩
    · obtain rfl : k = n := by omega
      obtain ⟨s3, U1, h3, hl3, hm3⟩ := HS.out.three
      have HM : Aside0 (∀ y, mem U1 y ↔ mem R y ∧ ¬ mem S y) := ⟨fun y => by
        rw [hm3 y, ← HN.out, List.take_length]
        constructor
        · rintro ⟨h | h, h2⟩
          · exact ⟨h, h2⟩
          · exact absurd h h2
        · rintro ⟨h, h2⟩
          exact ⟨.inl h, h2⟩⟩
      have hl4 : U1.length ≤ 120 := by omega
      have HT : Aside0 (SetAt wr w.heap.size p1 s1 R ∧ SetAt wr w.heap.size p2 s2 S ∧ SetAt wr w.heap.size p3 s3 U1 ∧ Kp w wr (fun _ => False)) := ⟨HS.out.one, HS.out.two, h3, HS.out.kept⟩
      clear h3 hl3 hm3 HS
      go_wp2_with fail
      go_loopw [11] (fun xv wr => ∃ x : Nat, x ≤ 256 ∧ xv = .int .i64 x ∧ Aside0 (SetAt wr w.heap.size p1 s1 R ∧ SetAt wr w.heap.size p2 s2 S ∧ SetAt wr w.heap.size p3 s3 U1 ∧ Kp w wr (fun _ => False))) (fun xv _ => 256 - (intOf xv).toNat)
      case atStart => exact ⟨0, by omega, rfl, HT⟩
      case round =>
        clear HT
        obtain ⟨x, hx, rfl, HT⟩ := hrel
        by_cases hlt2 : x < 256
        · have hx0 : (0 : Int) ≤ (x : Int) := by omega
          have hx1 : (x : Int) < 256 := by omega
          have i1 := holdsB_iff HT.out.2.2.1.good (x : Int) (x : Int)
          have i2 := holdsB_iff HT.out.1.good (x : Int) (x : Int)
          have i3 := holdsB_iff HT.out.2.1.good (x : Int) (x : Int)
          have one : ∀ L, (∀ y, (x : Int) ≤ y → y ≤ (x : Int) → mem L y) ↔ mem L (x : Int) := fun L => ⟨fun h => h _ (Int.le_refl _) (Int.le_refl _), fun h y h1 h2 => by rw [show y = (x : Int) by omega]; exact h⟩
          rw [one] at i1 i2 i3
          have Q : Aside0 (holdsB U1 (x : Int) (x : Int) = (holdsB R (x : Int) (x : Int) && !holdsB S (x : Int) (x : Int))) := ⟨bool_iff (by
            rw [i1, HM.out, Bool.and_eq_true, Bool.not_eq_true', ← i2, ← Bool.not_eq_true, i3])⟩
          clear i1 i2 i3 one
          go_wp2_with fail
          refine (has_calls HT.out.2.2.1 (x : Int) (by omega)).mono ?_
          rw [Q.out]
          rintro e wa ⟨rfl, ka⟩
          have HTa := Aside0.mk (And.intro (HT.out.1.stay ka) (And.intro (HT.out.2.1.stay ka) (And.intro (HT.out.2.2.1.stay ka) (HT.out.2.2.2.then_ ka (fun _ h => .inl h)))))
          clear ka HT
          go_wp2_with fail
          refine (has_calls HTa.out.1 (x : Int) (by omega)).mono ?_
          rintro e wb ⟨rfl, kb⟩
          have HTb := Aside0.mk (And.intro (HTa.out.1.stay kb) (And.intro (HTa.out.2.1.stay kb) (And.intro (HTa.out.2.2.1.stay kb) (HTa.out.2.2.2.then_ kb (fun _ h => .inl h)))))
          clear kb HTa Q
          cases hr : holdsB R (x : Int) (x : Int) with
          | false =>
            clear hr
            go_wp2
            go_roundw
            case measure => simp [intOf]; omega
            case rel => exact ⟨x + 1, by omega, by go_num, HTb⟩
          | true =>
            clear hr
            go_wp2_with fail
            refine (has_calls HTb.out.2.1 (x : Int) (by rw [HN.out]; omega)).mono ?_
            rintro e wd ⟨rfl, kd⟩
            have HTd := Aside0.mk (And.intro (HTb.out.1.stay kd) (And.intro (HTb.out.2.1.stay kd) (And.intro (HTb.out.2.2.1.stay kd) (HTb.out.2.2.2.then_ kd (fun _ h => .inl h)))))
            clear kd HTb
            cases hs : holdsB S (x : Int) (x : Int) with
            | false =>
              clear hs
              go_wp2
              go_roundw
              case measure => simp [intOf]; omega
              case rel => exact ⟨x + 1, by omega, by go_num, HTd⟩
            | true =>
              clear hs
              go_wp2
              go_roundw
              case measure => simp [intOf]; omega
              case rel => exact ⟨x + 1, by omega, by go_num, HTd⟩
        · have hge : ¬ (x : Int) < 256 := by omega
          go_wp2
          go_ret
          exact ⟨rfl, HT.out.2.2.2⟩
theorem ways (A : Option Addr) (len cap : Nat) (T : Nat → Rec) (A2 : Option Addr) (len2 cap2 : Nat) (T2 : Nat → Rec) (w : World) (hlc : len ≤ cap) (hcm : cap ≤ maxLen)
    (hT : ∀ i, i < len → ∃ a, A = some a ∧ w.cell? (a.add (i * 4)) = some (.int .i64 (T i).kind) ∧ w.cell? (a.add (i * 4 + 1)) = some (.bool (T i).second) ∧ w.cell? (a.add (i * 4 + 2)) = some (.int .i64 (T i).lo) ∧ w.cell? (a.add (i * 4 + 3)) = some (.int .i64 (T i).hi) ∧ (Lit.int .i64 (T i).kind).wf = true ∧ (Lit.int .i64 (T i).lo).wf = true ∧ (Lit.int .i64 (T i).hi).wf = true)
    (hlc2 : len2 ≤ cap2) (hcm2 : cap2 ≤ maxLen)
    (hT2 : ∀ i, i < len2 → ∃ a, A2 = some a ∧ w.cell? (a.add (i * 4)) = some (.int .i64 (T2 i).kind) ∧ w.cell? (a.add (i * 4 + 1)) = some (.bool (T2 i).second) ∧ w.cell? (a.add (i * 4 + 2)) = some (.int .i64 (T2 i).lo) ∧ w.cell? (a.add (i * 4 + 3)) = some (.int .i64 (T2 i).hi) ∧ (Lit.int .i64 (T2 i).kind).wf = true ∧ (Lit.int .i64 (T2 i).lo).wf = true ∧ (Lit.int .i64 (T2 i).hi).wf = true) :
    Calls Try.prog 8 #[.slice A len cap, .slice A2 len2 cap2] w fun e w' => e = .returned (.bool true) ∧ Below w.heap.size w w' := by
  unfold maxLen at hcm hcm2
  refine (ways_calls A len cap T A2 len2 cap2 T2 w (fun i hi => ?_) (by omega) (fun i hi => ?_) (by omega)).mono fun _ _ h => ⟨h.1, h.2.to_below⟩
  · obtain ⟨a, h1, h2, h3, h4, h5, _⟩ := hT i hi
    exact ⟨a, h1, h2, h3, h4, h5⟩
  · obtain ⟨a, h1, h2, h3, h4, h5, _⟩ := hT2 i hi
    exact ⟨a, h1, h2, h3, h4, h5⟩
end Go.Proofs.Ytbaciaolhfmfkaa.Lw
