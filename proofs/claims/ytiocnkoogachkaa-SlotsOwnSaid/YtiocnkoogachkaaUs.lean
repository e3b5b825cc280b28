/- This text walks the law's comparison of what the iterator gives with the reference's things by their numbers. -/
import Derived.Test.YtiocnkoogachkaaUi
namespace Go.Proofs.Ytiocnkoogachkaa.Us
open Go.RowKit Go.Shelf Go.Proofs.YtiocnkoogachkaaW.PrintWords Go.Proofs.Ytiocnkoogachkaa.Mp Go.Proofs.Ytiocnkoogachkaa.Hp Go.Proofs.Ytiocnkoogachkaa.Tg Go.Proofs.Ytiocnkoogachkaa.Rs Go.Proofs.Ytiocnkoogachkaa.PSlotsPlays Go.Proofs.Ytiocnkoogachkaa.Ui
set_option linter.unusedVariables false
set_option linter.unusedSimpArgs false
attribute [local go_sem] Oper.semAt_some
/-- One thing of a row that lay before. -/
theorem at_row {w W : World} {A : Option Addr} {xs : List S47} {Sx : Nat → Prop} (h : Kd.C k47 w A xs.length xs) (K : Kp w W Sx) (hS : ∀ k, k < w.heap.size → ¬ Sx k) {i : Nat} {x : S47} (hx : xs[i]? = some x) :
    ∃ ad, A = some ad ∧ W.cell? (ad.add (i * 2)) = some (.int .i64 x.f0) ∧ W.cell? ⟨(ad.add (i * 2)).block, (ad.add (i * 2)).off + 1, none⟩ = some (.int .i64 x.f1) := by
  obtain ⟨ad, e, h0, h1⟩ := at_T47 h (i : Int) (by omega) (by have := (List.getElem?_eq_some_iff.1 hx).1; omega)
  rw [rd_get hx, Int.toNat_natCast] at h0 h1
  exact ⟨ad, e, cell_kp h0 K (hS _ (World.block_lt_of_cell? w _ h0)), cell_kp h1 K (hS _ (World.block_lt_of_cell? w _ h1))⟩
section
variable {α : Type} {G : HForm α Bool} {w0 w w2 : World} {tb hb pb : Nat} {fv : Value} {z : α} {m b : Nat} {Ps : List (It α Bool)} {held : Int} {S Sx : Nat → Prop}
theorem st_keep (h : St G w0 w tb hb pb fv z m Ps b held S) (K : Kp w w2 Sx) (h1 : ∀ k, Sx k → ¬ S k) (h2 : ∀ k, Sx k → w0.heap.size ≤ k) : St G w0 w2 tb hb pb fv z m Ps b held S := by
  obtain ⟨sv, pv, L, c, q1, q2, q3, q4, rfl⟩ := h.ex
  exact ⟨⟨sv, pv, L, c, q1.keep K h1, q2, q3, q4, rfl⟩, h.kept.then_ K (fun k hk => .inr (h2 k hk)), h.small⟩
theorem st_stay (h : St G w0 w tb hb pb fv z m Ps b held S) (K : Kp w w2 (fun _ => False)) : St G w0 w2 tb hb pb fv z m Ps b held S := st_keep h K (fun _ h => h.elim) (fun _ h => h.elim)
theorem st_lt (h : St G w0 w tb hb pb fv z m Ps b held S) : ∀ k, S k → k < w.heap.size := by
  obtain ⟨sv, pv, L, c, q1, q2, q3, q4, rfl⟩ := h.ex
  exact q1.lt
end
set_option maxRecDepth 100000 in
set_option maxHeartbeats 4000000 in
theorem same_calls {w0 w : World} {tb hb pb : Nat} {Ps : List (It Int Bool)} {m b : Nat} {held : Int} {S : Nat → Prop} (h : St Ti.PF w0 w tb hb pb Ti.LV Ti.Z m Ps b held S) {M : List S47} (hM : RM Ps M) (hn : M.length < 1048576) (mI : Int) (A : Option Addr) (c : Nat) (hr : Kd.C k47 w A M.length M) (hc : M.length ≤ c) :
    Calls Try.prog 17 #[.pointer (some ⟨tb, 0, none⟩), .agg #[.int .i64 mI, .slice A M.length c]] w fun e w' => e = .returned (.bool true) ∧ Kp w w' (fun _ => False) := by
  obtain ⟨kf, hf⟩ := rising_f hM hn (by obtain ⟨_, _, _, _, _, P, _⟩ := h.ex; exact Nat.le_trans P.le h.small) mI
  have hheld : held = ((rl 0 Ps).length : Int) := by obtain ⟨_, _, _, _, _, P, _⟩ := h.ex; rw [rl_len]; exact P.cnt
  have hsm : Ps.length ≤ 65536 := by obtain ⟨_, _, _, _, _, P, _⟩ := h.ex; exact Nat.le_trans P.le h.small
  have HR := Aside0.mk hr
  have HST := Aside0.mk h
  have HF := Aside0.mk hf
  have HH := Aside0.mk hheld
  clear h hr hf hheld
  refine (callsIn_wide (n := 9)).1 ?_
  refine callsIn_of_wp_marks Try.func17 rfl trivial ?_ rfl
  simp only [Try.ntmps17, List.size_toArray, List.length_cons, List.length_nil, Nat.reduceAdd, Nat.reduceSub, Array.replicate_succ, Array.replicate_zero, List.push_toArray, List.append_toArray, List.nil_append, List.cons_append]
  gi_wp2
  obtain ⟨wa, hwa⟩ : ∃ wa, (w.alloc (.cells #[.int .i64 mI, .slice A M.length c] 34)).alloc (.cells #[.bool false] 4) = wa := ⟨_, rfl⟩
  have ka : Kp w wa (fun _ => False) := by rw [← hwa]; exact ((Kp.refl w _).alloc _).alloc _
  have b4 : wa.heap[w.heap.size + 1]? = some (.cells #[.bool false] 4 (0, 0)) := by
    rw [← hwa]
    have := heap_alloc_new (w.alloc (.cells #[.int .i64 mI, .slice A M.length c] 34)) (.cells #[.bool false] 4)
    rwa [World.size_alloc] at this
  rw [hwa]
  clear hwa
  refine ⟨trivial, ?_⟩
  refine (callsIn_wide.2 (brambleref04_Rising.calls kf mI A c M _ wa (Kd.C_below HR.out ka.to_below) hc HF.out)).mono ?_
  rintro e w1 ⟨v, rfl, hR, hB⟩
  have k1 : Kp wa w1 (fun _ => False) := Kp.of_below hB _
  have b41 := blk_kp b4 k1 (fun h => h)
  have hw1b : w.heap.size + 1 < w1.heap.size := blk_lt b41
  obtain ⟨A5, n5, rfl⟩ := Kd.R_slice hR
  have hC := (Kd.R_reads' hR).2.2
  have k01 : Kp w w1 (fun _ => False) := ka.then_ k1 (fun _ h => h.elim)
  clear hR hB k1 b4 ka
  have HC := Aside0.mk hC
  have HK01 := Aside0.mk k01
  have HB4 := Aside0.mk b41
  clear hC k01 b41 HF HR
  gi_wp2
  obtain ⟨wb, hwb⟩ : ∃ wb, (w1.alloc (.cells #[.slice A5 (rl 0 Ps).length n5] 32)).alloc (.cells #[.int .i64 0] 3) = wb := ⟨_, rfl⟩
  have ka : Kp w1 wb (fun _ => False) := by rw [← hwb]; exact ((Kp.refl w1 _).alloc _).alloc _
  have b6 : wb.heap[w1.heap.size + 1]? = some (.cells #[.int .i64 0] 3 (0, 0)) := by
    rw [← hwb]
    have := heap_alloc_new (w1.alloc (.cells #[.slice A5 (rl 0 Ps).length n5] 32)) (.cells #[.int .i64 0] 3)
    rwa [World.size_alloc] at this
  have b5 : wb.heap[w1.heap.size]? = some (.cells #[.slice A5 (rl 0 Ps).length n5] 32 (0, 0)) := by
    rw [← hwb]
    exact blk_kp (heap_alloc_new w1 (.cells #[.slice A5 (rl 0 Ps).length n5] 32)) ((Kp.refl _ (fun _ => False)).alloc _) (fun h => h)
  rw [hwb]
  clear hwb
  have h1 := st_stay HST.out (HK01.out.then_ ka (fun _ h => h.elim))
  refine ⟨trivial, ?_⟩
  refine (callsIn_wide.2 (Ti.all_calls h1)).mono ?_
  rintro e w2 ⟨Bs, cv, rfl, hBs, hle, hown, hcv, k2⟩
  have h2 := st_stay h1 k2
  have c5' := blk_kp b5 k2 (fun h => h)
  have c6' := blk_kp b6 k2 (fun h => h)
  have c4' := blk_kp (blk_kp HB4.out ka (fun h => h)) k2 (fun h => h)
  have k12 : Kp w1 w2 (fun _ => False) := ka.then_ k2 (fun _ h => h.elim)
  have HBW : w1.heap.size + 1 < wb.heap.size := blk_lt b6
  clear b5 b6 ka h1
  have HS2 := Aside0.mk h2
  have H4 := Aside0.mk c4'
  have H5 := Aside0.mk c5'
  have H6 := Aside0.mk c6'
  have HK12 := Aside0.mk k12
  have HBs := Aside0.mk hBs
  have HOW := Aside0.mk hown
  have HCV := Aside0.mk hcv
  have HLE := Aside0.mk hle
  clear h2 c4' c5' c6' k12 hBs hown hcv hle k2 HB4
  gi_wp2
  have hw12 := HK12.out.size
  have hwb2 : wb.heap.size ≤ w2.heap.size := Nat.le_trans HLE.out (Nat.le_of_lt (blk_lt HBs.out))
  have hw01 := HK01.out.size
  have hw0 : w.heap.size + 1 < w2.heap.size := blk_lt H4.out
  refine wpIn_rangeFunc_ownG (α := S47) rfl (by omega) (gf := 43) (lb := #[.pointer (some ⟨Bs, 0, none⟩)]) rfl trivial (enters_of Try.func43 (by kernel_rfl) rfl)
    (iter_stops Fence.wide 8 trivial rfl (by omega) Bs wb.heap.size (fun k => w2.heap.size ≤ k ∨ k = w1.heap.size + 1) cv Ps hsm w2 HBs.out HOW.out ?hg) ?hKt ?hKb (Below.refl _ _) (fun _ => rfl)
    (fun pre W => pre <+: rl 0 Ps ∧ W.heap[w1.heap.size + 1]? = some (.cells #[.int .i64 (pre.length : Int)] 3 (0, 0)) ∧ Kp w2 W (fun k => w2.heap.size ≤ k ∨ k = w1.heap.size + 1))
    (fun c pre W => ¬ (pre <+: rl 0 Ps))
    ?hI ?hIx ?h0 (fun x => { tmps := #[.pointer (some ⟨tb, 0, none⟩), .agg #[.int .i64 mI, .slice A M.length c], undef, .pointer (some ⟨w.heap.size, 0, none⟩), .pointer (some ⟨w.heap.size + 1, 0, none⟩), .pointer (some ⟨w1.heap.size, 0, none⟩), .pointer (some ⟨w1.heap.size + 1, 0, none⟩), .int .i64 x.f0, .int .i64 x.f1, .agg #[.int .i64 mI, .slice A M.length c], .slice A5 (rl 0 Ps).length n5, .pointer (some ⟨tb, 0, none⟩), .func (.func 43) #[] #[.pointer (some ⟨Bs, 0, none⟩)], .int .i64 x.f0, .int .i64 x.f1, undef, undef, undef, undef, undef, undef, undef, undef, undef, undef, undef, undef, undef, undef, undef, undef, undef, undef, undef, undef, undef, undef, undef, undef, undef, undef, undef, undef, undef, undef, undef, undef, undef, undef], defers := [] }) ?assign ?body ?done ?stop
  case hg =>
    intro k hk h
    have h1 := own_base HOW.out k hk
    have h2 := own_lt HOW.out k hk
    omega
  case hKt =>
    intro A B C h k
    exact h.then_ k (fun _ h => .inl h)
  case hKb =>
    intro W l o o' hl ho hc hw
    exact (Ti.kp_grown (grownBy_putObj' W l o')).mono (fun k hk => by cases hk; exact .inl hl)
  case hI =>
    rintro s W W' row ⟨h1, h2, h3⟩ hg hr
    refine ⟨h1, ?_, h3.then_ (Ti.kp_grown hg) (fun k hk => .inl (.inl (hr k hk).1))⟩
    exact (hg.block _ (blk_lt h2) (fun e => by have := (hr _ e.symm).1; omega)).trans h2
  case hIx =>
    intro c s W W' row hs hg hr
    exact hs
  case h0 => exact ⟨List.nil_prefix, H6.out, Kp.refl _ _⟩
  case assign =>
    intro l x W K hK
    gi_wp2
    exact hK
  case body =>
    rintro l pre x W ⟨hp, hcell, K⟩ hlen
    obtain ⟨y, hy⟩ : ∃ y, (rl 0 Ps)[pre.length]? = some y := ⟨_, List.getElem?_eq_getElem hlen⟩
    have hpx : pre ++ [x] <+: rl 0 Ps ↔ x = y := by
      obtain ⟨t, ht⟩ := hp
      rw [← ht] at hy ⊢
      rw [List.getElem?_append_right (Nat.le_refl _), Nat.sub_self] at hy
      cases t with
      | nil => simp at hy
      | cons z t =>
        simp at hy
        subst hy
        rw [List.prefix_append_right_inj]
        simp
    have c6 : W.cell? ⟨w1.heap.size + 1, 0, none⟩ = some (.int .i64 (pre.length : Int)) := (blk_cell hcell 0).trans rfl
    have z6 : W.frozen? ⟨w1.heap.size + 1, 0, none⟩ = false := blk_frozen hcell 0
    have h5 := blk_kp H5.out K (by omega)
    have h4 := blk_kp H4.out K (by omega)
    have c5 : W.cell? ⟨w1.heap.size, 0, none⟩ = some (.slice A5 (rl 0 Ps).length n5) := (blk_cell h5 0).trans rfl
    have c4 : W.cell? ⟨w.heap.size + 1, 0, none⟩ = some (.bool false) := (blk_cell h4 0).trans rfl
    have z4 : W.frozen? ⟨w.heap.size + 1, 0, none⟩ = false := blk_frozen h4 0
    obtain ⟨ad, rfl, r0, r1⟩ := at_row HC.out ((HK12.out.mono (fun _ h => h.elim)).then_ K (fun _ h => .inl h)) (fun k hk h => by omega) hy
    have HPX := Aside0.mk hpx
    have HK := Aside0.mk K
    have HCE := Aside0.mk hcell
    have HLN : ((rl 0 Ps).length : Int) ≤ 9223372036854775807 := by
      have h1 := rl_len 0 Ps
      have h2 := List.countP_le_length (p := fun x : It Int Bool => x.rank) (l := Ps)
      omega
    have t0 : decide (((rl 0 Ps).length : Int) ≤ (pre.length : Int)) = false := decide_eq_false (by omega)
    have t0n : decide ((rl 0 Ps).length ≤ pre.length) = false := decide_eq_false (by omega)
    clear hpx K hcell h5 h4 hp hy
    by_cases e0 : y.f0 = x.f0
    · by_cases e1 : y.f1 = x.f1
      · have hxy : x = y := by cases x; cases y; simp only at e0 e1; rw [e0, e1]
        have HX := Aside0.mk (HPX.out.2 hxy)
        clear hxy
        gi_wp2
        refine ⟨(KeepsOthers.setCell _ _ _).from _, Kp.setCell (Kp.refl W _) (by left; right; rfl) _, HX.out, ?_, HK.out.then_ (Kp.setCell (Kp.refl W (fun k => k = w1.heap.size + 1)) (by left; rfl) _) (fun k hk => .inl (.inr hk))⟩
        rw [List.length_append, List.length_singleton, Int.natCast_add]
        exact blk_put HCE.out 0 _ rfl
      · have HX : Aside0 (¬ (pre ++ [x] <+: rl 0 Ps)) := ⟨fun h => e1 (by rw [HPX.out.1 h])⟩
        have t2 : (y.f1 != x.f1) = true := by simpa using e1
        clear e1
        gi_wp2
        exact ⟨(KeepsOthers.setCell _ _ _).from _, HX.out⟩
    · have HX : Aside0 (¬ (pre ++ [x] <+: rl 0 Ps)) := ⟨fun h => e0 (by rw [HPX.out.1 h])⟩
      have t1 : (y.f0 != x.f0) = true := by simpa using e0
      clear e0
      gi_wp2
      exact ⟨(KeepsOthers.setCell _ _ _).from _, HX.out⟩
  case done =>
    rintro D ys W hD rfl ⟨hp, hcell, K⟩ hK
    have h5 := blk_kp H5.out K (by omega)
    have h4 := blk_kp H4.out K (by omega)
    have c6 : W.cell? ⟨w1.heap.size + 1, 0, none⟩ = some (.int .i64 ((rl 0 Ps).length : Int)) := (blk_cell hcell 0).trans rfl
    have c5 : W.cell? ⟨w1.heap.size, 0, none⟩ = some (.slice A5 (rl 0 Ps).length n5) := (blk_cell h5 0).trans rfl
    have c4 : W.cell? ⟨w.heap.size + 1, 0, none⟩ = some (.bool false) := (blk_cell h4 0).trans rfl
    have z4 : W.frozen? ⟨w.heap.size + 1, 0, none⟩ = false := blk_frozen h4 0
    have hst : St Ti.PF w0 W tb hb pb Ti.LV Ti.Z m Ps b held S := st_keep HS2.out K (fun k hk hs => by have := st_lt HST.out k hs; omega) (fun k hk => by have := HST.out.kept.size; omega)
    have HW := Aside0.mk hst
    have K2 : Kp w W (fun _ => False) := (HK01.out.then_ HK12.out (fun _ h => h.elim)).then_ K (fun k hk => .inr (by omega))
    have HK2 := Aside0.mk K2
    have hh : held = ((rl 0 Ps).length : Int) := HH.out
    have HDK := Aside0.mk hK
    have HB4W := Aside0.mk h4
    clear hp hcell h5 h4 hst K2 K hK
    subst hh
    gi_wp2_with fail
    refine wpIn_wide.2 ?_
    have q6 : ∀ u, (W.setCell ⟨w.heap.size + 1, 0, none⟩ u).cell? ⟨w1.heap.size + 1, 0, none⟩ = some (.int .i64 ((rl 0 Ps).length : Int)) := fun u => by rw [World.cell?_setCell_other _ _ _ _ (by first | (simp; done) | (simp; omega))]; exact c6
    have q5 : ∀ u, (W.setCell ⟨w.heap.size + 1, 0, none⟩ u).cell? ⟨w1.heap.size, 0, none⟩ = some (.slice A5 (rl 0 Ps).length n5) := fun u => by rw [World.cell?_setCell_other _ _ _ _ (by first | (simp; done) | (simp; omega))]; exact c5
    go_region_held3 (fun w' => w'.cell? ⟨w1.heap.size + 1, 0, none⟩ = some (.int .i64 ((rl 0 Ps).length : Int)) ∧ w'.cell? ⟨w1.heap.size, 0, none⟩ = some (.slice A5 (rl 0 Ps).length n5)) (first | exact ⟨c6, c5⟩ | exact ⟨q6 _, q5 _⟩)
      (first | (go_at_call 13; go_must ((refine (Ti.len_st (st_stay HW.out ((Kp.refl W (fun _ => False)).drew))).mono ?_); rintro e w9 ⟨rfl, rfl⟩)))
    have hB4 : ((W.setCell ⟨w.heap.size + 1, 0, none⟩ (.bool true)).drew).heap[w.heap.size + 1]? = some (.cells #[.bool true] 4 (0, 0)) := blk_put HB4W.out 0 _ rfl
    have hKD : ((W.setCell ⟨w.heap.size + 1, 0, none⟩ (.bool true)).drew).heap[D]? = some (.deferred (some [])) := (KeepsOthers.setCell W _ _).same D _ HDK.out rfl
    have KF : Kp w ((W.setCell ⟨w.heap.size + 1, 0, none⟩ (.bool true)).drew) (fun _ => False) := HK2.out.then_ ((Kp.setCell (Kp.refl W (fun k => k = w.heap.size + 1)) (by left; rfl) _).drew) (fun k hk => .inr (by rw [hk]; omega))
    clear c6 c5 c4 z4 q6 q5 HK2 HDK HB4W
    generalize (W.setCell ⟨w.heap.size + 1, 0, none⟩ (.bool true)).drew = Wf at *
    have hB4f : (Wf.putObj D (.deferred none)).heap[w.heap.size + 1]? = some (.cells #[.bool true] 4 (0, 0)) := (World.putObj_heap_other (by omega)).trans hB4
    have hcf : (Wf.putObj D (.deferred none)).cell? ⟨w.heap.size + 1, 0, none⟩ = some (.bool true) := (blk_cell hB4f 0).trans rfl
    have KFF := Aside0.mk (KF.then_ (Ti.kp_grown (grownBy_putObj' Wf D (.deferred none))) (fun k hk => by cases hk; exact .inr (by omega)))
    clear hB4 hB4f KF
    gi_wp2
    refine ⟨by simp, .inl ⟨_, _, rfl, run_takeDeferred hKD, ?_⟩⟩
    refine ⟨.bool true, ?_, rfl, KFF.out⟩
    have hres : Try.f17.results = #[ResultVar.cell 4 4] := rfl
    simp [results, hres, go_sem, hcf]
  case stop =>
    rintro D c pre W hD hSp hIx hK
    exact absurd hSp hIx
end Go.Proofs.Ytiocnkoogachkaa.Us
