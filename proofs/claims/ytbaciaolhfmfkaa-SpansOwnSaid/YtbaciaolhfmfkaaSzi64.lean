/- This text walks the program's sets of whole numbers (int): joining, and the law's list of runs. -/
import Derived.Test.YtbaciaolhfmfkaaSyi64
namespace Go.Proofs.Ytbaciaolhfmfkaa.Si64
open Go.RowKit Go.Proofs.YtbaciaolhfmfkaaW.PrintWords Go.Proofs.Ytbaciaolhfmfkaa.Mp Go.Proofs.Ytbaciaolhfmfkaa.Ow Go.Proofs.Ytbaciaolhfmfkaa.Sp
set_option linter.unusedVariables false
set_option maxRecDepth 100000
/-- The set while runs are put in. -/
structure JoinW (w wr : World) (base p : Nat) (R R1 : List Run) (T : List Run) (k : Nat) (c : Bool) (v : Value) : Prop where
  set : ∃ sv1, SetAt wr base p sv1 R1
  row : wr.ownsRow w.heap.size 91 2 v T.length (flat T)
  mem : ∀ y, mem R1 y ↔ mem R y ∨ mem (T.take k) y
  len : R1.length ≤ R.length + k
  told : c = true ↔ R1 ≠ R
  kept : Kp w wr (fun k => k = p)
theorem JoinW.next {w wr w2 : World} {base p k : Nat} {R R1 R2 T : List Run} {c b : Bool} {v sv1 : Value} {r : Run} (h : JoinW w wr base p R R1 T k c v) (hp : p < w.heap.size) (hR : Sp.Good tMin tMax R) (hR1 : Sp.Good tMin tMax R1) (hr : T[k]? = some r) (hL : Left wr w2 base p sv1 R1 R2 b) (hm : ∀ y, Sp.mem R2 y ↔ Sp.mem R1 y ∨ (r.1 ≤ y ∧ y ≤ r.2)) :
    JoinW w w2 base p R R2 T (k + 1) (b || c) v := by
  obtain ⟨sv2, h2, _⟩ := hL.set
  refine ⟨⟨sv2, h2⟩, row_kp h.row hL.kept (fun q hq e => by have := (row_blk h.row hq).1; omega), fun y => ?_, by have := h.len; have := hL.len; omega, ?_, h.kept.then_ hL.kept (fun k hk => .inl hk)⟩
  · rw [hm, h.mem, List.take_add_one, mem_app, hr]
    simp only [Option.toList]
    rw [mem_one]
    constructor
    · rintro ((h | h) | h)
      · exact .inl h
      · exact .inr (.inl h)
      · exact .inr (.inr h)
    · rintro (h | h | h)
      · exact .inl (.inl h)
      · exact .inl (.inr h)
      · exact .inr h
  · cases hb : b with
    | true =>
      simp only [Bool.true_or, true_iff]
      intro e
      have h3 := hL.told.1 hb
      refine h3 (Good.unique h2.good hR1 (fun y => ?_))
      constructor
      · intro hy; rw [e] at hy; exact (h.mem y).2 (.inl hy)
      · intro hy; exact (hm y).2 (.inl hy)
    | false =>
      simp only [Bool.false_or]
      have h3 : R2 = R1 := by
        by_cases e : R2 = R1
        · exact e
        · have := hL.told.2 e; rw [hb] at this; cases this
      rw [h3]
      exact h.told
set_option maxHeartbeats 1000000 in
theorem join_calls {w : World} {base b2 p q : Nat} {sv tv : Value} {R T : List Run} (h : SetAt w base p sv R) (h2 : SetAt w b2 q tv T) (hl : R.length + T.length ≤ 4398046511104) (hb : base ≤ w.heap.size) :
    Calls Try.prog 40 #[.pointer (some ⟨p, 0, none⟩), .pointer (some ⟨q, 0, none⟩)] w fun e w' => ∃ b R' sv', e = .returned (.bool b) ∧ SetAt w' base p sv' R' ∧ (∀ y, mem R' y ↔ mem R y ∨ mem T y) ∧ R'.length ≤ R.length + T.length ∧ (b = true ↔ R' ≠ R) ∧ Kp w w' (fun k => k = p) := by
  have H0 := Aside0.mk (runs_calls h2 (by omega))
  have H := Aside0.mk h
  have HT := Aside0.mk h2.good
  have HPW := Aside0.mk (blk_lt h.head)
  obtain ⟨n, hn⟩ : ∃ n, T.length = n := ⟨_, rfl⟩
  have HN := Aside0.mk hn
  have HL : Aside0 (R.length + T.length ≤ 4398046511104) := ⟨hl⟩
  have hnl : n ≤ 4398046511104 := by omega
  have HB := Aside0.mk hb
  clear h h2 hn hl hb
  go_enter Try.func40, Try.ntmps40
  go_wp2_with fail
  refine H0.out.mono ?_
  rintro e w1 ⟨v, rfl, ho, hk⟩
  have HA : Aside0 (∃ R1, JoinW w w1 base p R R1 T 0 false v) := ⟨R, ⟨sv, H.out.stay hk⟩, ho, fun y => by rw [List.take_zero]; exact ⟨.inl, fun h => h.elim id (fun h => absurd h (mem_nil _))⟩, by omega, by simp, hk.mono (fun _ h => h.elim)⟩
  obtain ⟨a, cap, hv, _⟩ := own_slice ho
  subst hv
  have HO := Aside0.mk ho
  rw [HN.out]
  clear ho hk H0
  go_wp2_with fail
  go_loopw [5, 11] (fun cv iv wr => ∃ (k : Nat) (c : Bool), k ≤ n ∧ iv = .int .i64 k ∧ cv = .bool c ∧ Aside0 (∃ R1, JoinW w wr base p R R1 T k c (.slice a n cap))) (fun _ iv _ => n - (intOf iv).toNat)
  case atStart => exact ⟨0, false, by omega, rfl, rfl, by rw [← HN.out]; exact HA⟩
  case round =>
    clear HA
    obtain ⟨k, c, hk, rfl, rfl, HJ⟩ := hrel
    obtain ⟨R1, hJ⟩ := HJ.out
    by_cases hlt : k < n
    · have hr : T[k]? = some (T.getD k (0, 0)) := by rw [List.getElem?_eq_getElem (by rw [HN.out]; exact hlt)]; simp [HN.out, hlt]
      have hrow := hJ.row
      obtain ⟨g, rfl, c1, c2⟩ := run_cells hrow hr
      have hrk := HT.out.ok _ (List.mem_of_getElem? hr)
      obtain ⟨sv1, hS⟩ := hJ.set
      have hlen := hJ.len
      generalize hrr : T.getD k (0, 0) = r at *
      obtain ⟨r1, r2⟩ := r
      simp only at c1 c2 hrk
      have HR := Aside0.mk hr
      have HJ1 := Aside0.mk hJ
      have HS := Aside0.mk hS
      have HRK := Aside0.mk hrk
      have HLE := Aside0.mk hlen
      have k0 : (0 : Int) ≤ (k : Int) := by omega
      have k1 : (k : Int) < (n : Int) := by omega
      clear hr hrr hJ hS hrk hrow hlen HJ HO
      go_wp2_with fail
      have hst : SetAt (wr.alloc (.cells #[.int .i64 r1, .int .i64 r2] 91)) base p sv1 R1 := HS.out.stay ((Kp.refl _ _).alloc _)
      have HST := Aside0.mk hst
      clear hst c1 c2
      refine (add_sem HST.out r1 r2 HRK.out.1 HRK.out.2.2 (by have := HLE.out; have := HL.out; have := HN.out; omega) (by have := HB.out; have := HJ1.out.kept.size; simp; omega)).mono ?_
      rintro e w5 ⟨b, R2, rfl, hL, hm⟩
      have hL2 : Left wr w5 base p sv1 R1 R2 b := ⟨(by
        obtain ⟨s2, h1, h3⟩ := hL.set
        exact ⟨s2, h1, fun q hq => (h3 q hq).elim .inl (fun h => .inr (by simp at h; omega))⟩), hL.len, hL.told, ((Kp.refl wr (fun k => k = p)).alloc _).then_ hL.kept (fun k hk => .inl hk)⟩
      have REL := Aside0.mk (HJ1.out.next HPW.out H.out.good HS.out.good HR.out hL2 hm)
      clear hL hm hL2 HJ1 HS HST HRK HLE HR
      cases b with
      | true =>
        go_wp2
        go_roundw
        case measure => simp [intOf]; omega
        case rel => exact ⟨k + 1, true, by omega, by go_num, rfl, ⟨R2, REL.out⟩⟩
      | false =>
        go_wp2
        go_roundw
        case measure => simp [intOf]; omega
        case rel => exact ⟨k + 1, c, by omega, by go_num, rfl, ⟨R2, REL.out⟩⟩
    · obtain rfl : k = n := by omega
      have HJ1 := Aside0.mk hJ
      clear hJ HJ HO
      go_wp2
      go_ret
      obtain ⟨sv1, hS⟩ := HJ1.out.set
      exact ⟨c, R1, sv1, rfl, hS, fun y => by rw [HJ1.out.mem, ← HN.out, List.take_length], by have := HJ1.out.len; have := HN.out; omega, HJ1.out.told, HJ1.out.kept⟩
def flatI (R : List Run) : List Value := R.flatMap (fun r => [.int .i64 r.1, .int .i64 r.2])
theorem info42 : (Try.prog.info? 42).map (fun i => (i.zero, i.size, i.bytes)) = some (some (.agg #[.int .i64 0, .int .i64 0]), 2, 16) := by kernel_rfl
structure ToldW (w wr : World) (T : List Run) (k : Nat) (v ov : Value) : Prop where
  row : wr.ownsRow w.heap.size 91 2 v T.length (flat T)
  out : wr.ownsRow w.heap.size 42 2 ov k (flatI (T.take k))
  kept : Kp w wr (fun _ => False)
theorem typ_ne {w : World} {base b2 n m s s2 q : Nat} {v v2 : Value} {e e2 : TypeId} {xs ys : List Value} (h : w.ownsRow base e s v n xs) (h2 : w.ownsRow b2 e2 s2 v2 m ys) (hne : e ≠ e2) (h3 : v.ownBlock = some q) : v2.ownBlock ≠ some q := by
  intro h4
  rcases h.2 with ⟨hv, _⟩ | ⟨g, cap, cur, rfl, _, hg, _⟩
  · rw [hv] at h3; cases h3
  · rcases h2.2 with ⟨hv, _⟩ | ⟨g', cap', cur', rfl, _, hg', _⟩
    · rw [hv] at h4; cases h4
    · cases h3; cases h4
      exact absurd rfl (blk_ne hg hg' hne)
set_option maxHeartbeats 1000000 in
theorem told_calls {w : World} {base p : Nat} {sv : Value} {R : List Run} (h : SetAt w base p sv R) (hl : R.length ≤ 4398046511104) :
    Calls Try.prog 49 #[.pointer (some ⟨p, 0, none⟩)] w fun e w' => ∃ v, e = .returned v ∧ w'.ownsRow w.heap.size 42 2 v R.length (flatI R) ∧ Kp w w' (fun _ => False) := by
  have H0 := Aside0.mk (runs_calls h hl)
  have HG := Aside0.mk h.good
  obtain ⟨n, hn⟩ : ∃ n, R.length = n := ⟨_, rfl⟩
  have HN := Aside0.mk hn
  rw [hn] at hl
  obtain ⟨i0, hi0, hz0, hz1, hz2⟩ := info_parts info42
  have HZ := Aside0.mk hi0
  have HZ0 := Aside0.mk hz0
  have HZ1 := Aside0.mk hz1
  have HZ2 := Aside0.mk hz2
  clear h hn hi0 hz0 hz1 hz2
  go_enter Try.func49, Try.ntmps49
  go_wp2_with fail
  refine H0.out.mono ?_
  rintro e w1 ⟨v, rfl, ho, hk⟩
  have HA : Aside0 (ToldW w w1 R 0 v (.slice none 0 0)) := ⟨ho, ⟨rfl, .inl ⟨rfl, rfl⟩⟩, hk⟩
  obtain ⟨a, cap, hv, _⟩ := own_slice ho
  subst hv
  rw [HN.out] at HA ⊢
  clear ho hk H0
  go_wp2_with fail
  go_loopw [3, 9] (fun ov iv wr => ∃ k : Nat, k ≤ n ∧ iv = .int .i64 k ∧ Aside0 (ToldW w wr R k (.slice a n cap) ov)) (fun _ iv _ => n - (intOf iv).toNat)
  case atStart => exact ⟨0, by omega, rfl, HA⟩
  case round =>
    clear HA
    obtain ⟨k, hk, rfl, HJ⟩ := hrel
    by_cases hlt : k < n
    · have hr : R[k]? = some (R.getD k (0, 0)) := by rw [List.getElem?_eq_getElem (by rw [HN.out]; exact hlt)]; simp [HN.out, hlt]
      have hrow := HJ.out.row
      obtain ⟨g, rfl, c1, c2⟩ := run_cells hrow hr
      have hrk := HG.out.ok _ (List.mem_of_getElem? hr)
      have hst : flatI (R.take (k + 1)) = flatI (R.take k) ++ [.int .i64 (R.getD k (0, 0)).1, .int .i64 (R.getD k (0, 0)).2] := by
        rw [List.take_add_one, hr]
        simp [flatI]
      generalize R.getD k (0, 0) = r at *
      obtain ⟨r1, r2⟩ := r
      simp only at c1 c2 hrk
      obtain ⟨hr1, hr2, hr3⟩ := hrk
      unfold tMin at hr1
      unfold tMax at hr3
      have hr4 : r1 ≤ 9223372036854775807 := by omega
      have hr5 : -9223372036854775808 ≤ r2 := by omega
      have HST := Aside0.mk hst
      have HJ1 := Aside0.mk (ToldW.mk (row_kp HJ.out.row ((Kp.refl wr (fun _ => False)).alloc (.cells #[.int .i64 r1, .int .i64 r2] 91)) (fun _ _ h => h)) (row_kp HJ.out.out ((Kp.refl wr (fun _ => False)).alloc (.cells #[.int .i64 r1, .int .i64 r2] 91)) (fun _ _ h => h)) (HJ.out.kept.alloc (.cells #[.int .i64 r1, .int .i64 r2] 91)))
      obtain ⟨Wr, hWr⟩ : ∃ Wr, wr.alloc (.cells #[.int .i64 r1, .int .i64 r2] 91) = Wr := ⟨_, rfl⟩
      obtain ⟨Y, hY⟩ : ∃ Y, wr.heap.size = Y := ⟨_, rfl⟩
      have hy : Wr.heap[Y]? = some (.cells #[.int .i64 r1, .int .i64 r2] 91 (0, 0)) := by rw [← hWr, ← hY]; exact heap_alloc_new _ _
      have hyc0 : Wr.cell? ⟨Y, 0, none⟩ = some (.int .i64 r1) := (blk_cell hy 0).trans rfl
      have hyc1 : Wr.cell? ⟨Y, 1, none⟩ = some (.int .i64 r2) := (blk_cell hy 1).trans rfl
      rw [hWr] at HJ1
      have hbw : w.heap.size ≤ Wr.heap.size := HJ1.out.kept.size
      have k0 : (0 : Int) ≤ (k : Int) := by omega
      have k1 : (k : Int) < (n : Int) := by omega
      clear hr hrow hst HJ hy hr2
      go_wp2_with (at_builtin; refine wpList_append_at rfl (.tmp 13) (.tmp 19) 39 rfl w.heap.size 42 i0 _ 2 16 Try.underlying39 HZ.out HZ0.out HZ1.out HZ2.out rfl (by decide) u3 k _ rfl (row_kp HJ1.out.out ((Kp.refl _ _).alloc _) (fun _ _ h => h)) ⟨Wr.heap.size, 0, none⟩ 1 1 [.int .i64 r1, .int .i64 r2] rfl rfl (fun j u h => newrow0 Wr 42 _ j u h) (by intro u hu; simp only [List.mem_cons, List.not_mem_nil, or_false] at hu; rcases hu with rfl | rfl <;> rfl) (by unfold maxLen; omega) (by omega) (by simp; omega) ?_; intro v' w' hown hgrow hloc; have HO := Aside0.mk hown; have HGR := Aside0.mk hgrow; clear hown hgrow hloc)
      have REL : Aside0 (ToldW w w' R (k + 1) (.slice (some ⟨g, 0, none⟩) n cap) v') := ⟨by
        have ka := ((Kp.refl Wr (fun _ => False)).alloc (.cells #[.int .i64 r1, .int .i64 r2] 42))
        refine ⟨?_, by rw [HST.out]; exact HO.out, (HJ1.out.kept.then_ ka (fun _ h => h.elim)).then_ (kp_grown HGR.out) (fun q hq => .inr (row_blk HJ1.out.out hq).1)⟩
        exact row_kp (row_kp HJ1.out.row ka (fun _ _ h => h)) (kp_grown HGR.out) (fun q hq hq2 => typ_ne HJ1.out.out HJ1.out.row (by decide) hq2 hq)⟩
      clear HO HGR HJ1 hyc0 hyc1 c1 c2 hWr hY
      go_roundw
      case measure => simp [intOf]; omega
      case rel => exact ⟨k + 1, by omega, by go_num, REL⟩
    · obtain rfl : k = n := by omega
      obtain ⟨a2, cap2, hv2, _⟩ := own_slice HJ.out.out
      subst hv2
      go_wp2
      go_ret
      refine ⟨_, rfl, ?_, HJ.out.kept⟩
      have := HJ.out.out
      rw [← HN.out, List.take_length] at this
      rw [← HN.out]
      exact this
end Go.Proofs.Ytbaciaolhfmfkaa.Si64
