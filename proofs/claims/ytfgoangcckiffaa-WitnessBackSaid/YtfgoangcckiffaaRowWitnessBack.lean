/- WitnessBack: what is written is read back, what is read is written back, and a beginning or anything more is refused; whatever the witness, the bytes and the number that are handed in (no conditions). -/
import Derived.Test.YtfgoangcckiffaaRows
import Derived.Test.YtfgoangcckiffaaLb
import Derived.Test.YtfgoangcckiffaaLg
import Derived.WalkKit
import Derived.ProofKit
import Derived.OpenShut
import Derived.ShutString
import Derived.ChangeOld
import Derived.Below
import Derived.SizedLaws
import Derived.Lib.SmallJoins
import Derived.Test.YtfgoangcckiffaaWSized
import Derived.Test.YtfgoangcckiffaaWMore
namespace Go.Proofs.Ytfgoangcckiffaa.witnessBack
open Go.ChangeShapes Go.WideShapes Go.ChangeAt Go.RowKit Go.Joins
open Go.Proofs.YtfgoangcckiffaaW.PrintWords
set_option linter.unusedVariables false
theorem own : ownKnob Try.prog.godebug = none := by kernel_rfl
theorem laidOut : laidOutB Try.prog = true := by kernel_rfl

/-- a slice of ints that reads, as a row that is read -/
theorem ints_C {H : Type} {enc : TypeId × Value → H} {P : Program} {W : World} {base : Nat} {spare : Nat → Bool} {held : Bool} {t e : TypeId} {k : IntKind} {fuel : Nat} {a : Option Addr} {len cap : Nat} {x : DataW H × List MemPlace}
    (hu : P.underlying t = some (.slice e)) (he : P.underlying e = some (.int k)) (hc : P.cellsOf e = 1) (hf : DataW.trod enc P W base spare held fuel t [.slice a len cap] = some x) :
    ∃ l : List Int, l.length = len ∧ len ≤ cap ∧ Kd.C (Kd.int k) W a l.length l ∧ (∀ n ∈ l, (Lit.int k n).wf = true) ∧ (x.1 = .nil ∧ len = 0 ∨ ∃ sp, x.1 = .slice (lits k l) sp) := by
  rcases open_ints hu he hc hf with ⟨hcs, hx⟩ | ⟨ad, l, c, zs, hcs, _, hl, hm, hz, hx, hcell, hwz⟩
  · simp at hcs
    obtain ⟨rfl, rfl, rfl⟩ := hcs
    exact ⟨[], rfl, Nat.le_refl _, Kd.C_of_reads (d := (0 : Int)) (h1 := fun _ => rfl) ⟨rfl, by simp, fun h => absurd h (by simp)⟩, by simp, by left; subst hx; simp⟩
  · simp at hcs
    obtain ⟨rfl, rfl, rfl⟩ := hcs
    have hlz : len ≤ zs.length := by rw [hz]; split <;> omega
    have hlt : (zs.take len).length = len := by simp; omega
    refine ⟨zs.take len, hlt, hl, Kd.C_of_reads (d := (0 : Int)) (h1 := fun _ => rfl) ⟨rfl, ?_, fun h => ⟨ad, rfl, fun j hj => ?_⟩⟩, fun n hn => hwz n (List.mem_of_mem_take hn), ?_⟩
    · unfold maxLen at hm; omega
    · rw [hlt] at hj
      rw [hcell j (by omega)]
      simp [List.getD_eq_getElem?_getD, hj]
    · right; subst hx; exact ⟨_, rfl⟩

theorem law_row (f t b : Int) (A : Option Addr) (c : Nat) (es : List Int) (B : Option Addr) (d : Nat) (l : List Int) (cut : Int) (w : World) (hr : Kd.C (Kd.int .i64) w A es.length es) (hc : es.length ≤ c) (hrb : Kd.C (Kd.int .u8) w B l.length l) (hd : l.length ≤ d)
    (hb : ∀ x ∈ l, 0 ≤ x ∧ x < 256) (hl : l.length < 140737488355328) (hel : es.length < 17592186044416) (q : 0 ≤ b ∧ b < 4294967296) (hcut : -9223372036854775808 ≤ cut ∧ cut < 9223372036854775808) :
    Calls Try.prog 5 #[.agg #[.int .i64 f, .int .i64 t, .int .u32 b, .slice A es.length c], .slice B l.length d, .int .i64 cut] w fun e w' => e = .returned (.bool true) ∧ Below w.heap.size w w' := by
  by_cases hg : Good.goodV f t es = 0
  · exact Lg.law_good f t b A c es B d l cut w hr hc hrb hd hb hl hel hg q.1 q.2 hcut
  · exact Lb.law_bad f t b A c es B d l cut w hr hc hrb hd hb hl hel hg
theorem weight_field {H : Type} {P : Program} {ts : List TypeId} {ds : List (DataW H)} {j : Nat} {t t' e : TypeId} {fs : Array Field} {parts elems spare : List (DataW H)} {i : Nat}
    (hsz : (DataW.weightsEach P ts ds).all (· ≤ reachBytes) = true) (ht : ts[j]? = some t) (hd : ds[j]? = some (.agg parts)) (hu : P.underlying t = some (.struct fs))
    (hf : (fs.toList.map (·.type))[i]? = some t') (hp : parts[i]? = some (.slice elems spare)) (hu' : P.underlying t' = some (.slice e)) : (elems.length + spare.length) * P.bytesOf e ≤ reachBytes := by
  have h1 : ∀ n ∈ (DataW.agg parts).weights P t, n ≤ reachBytes := fun n hn => by
    have := List.all_eq_true.1 hsz n (DataW.weights_mem_each ht hd n hn)
    simpa using this
  refine h1 _ ?_
  simp only [DataW.weights, hu]
  exact DataW.weights_mem_each hf hp _ (by simp [DataW.weights, hu'])

def IsRow (k : IntKind) (w : World) (a : Option Addr) (len cap : Nat) (zs : List Int) : Prop :=
  (a = none ∧ len = 0 ∧ cap = 0 ∧ zs = []) ∨
  ∃ x, a = some x ∧ len ≤ cap ∧ cap ≤ maxLen ∧ zs.length = cap ∧ (∀ i, i < zs.length → w.cell? (x.add i) = some (.int k (zs.getD i 0))) ∧ ∀ n ∈ zs, (Lit.int k n).wf = true
set_option maxRecDepth 100000 in
theorem lifted (os : Os) (started : os.Started) (H : Type) (enc : TypeId × Value → H) :
    ReturnsInHanded {} Try.checked os 5 .any (Rows.witnessBackSpec.pre6 enc Try.prog Try.f5 Rows.witnessBackRow.domain false) (Rows.witnessBackSpec.post enc Try.prog Try.f5 false true false false) := by
  refine returnsInHanded_of_change_sized (C := Try.checked) own started (by kernel_rfl) Try.func5
    (ChangeSpec.witness6 (enc := enc) (C := Try.checked) false ⟨#[], #[.agg #[.int .i64 0, .int .i64 0, .int .u32 0, .slice none 0 0], .slice none 0 0, .int .i64 0], []⟩ 8 (by kernel_rfl) (by kernel_rfl) (by kernel_rfl) (by kernel_rfl)) ?_
  intro W base args ds gs before hval0 hW hcnd hsz0 _
  have hsz : (DataW.weightsEach Try.prog (Try.f5.params.toList ++ Rows.witnessBackSpec.plain.varTypes Try.prog) (ds ++ gs)).all (· ≤ reachBytes) = true := hsz0
  have hval : ∀ (j : Nat) t v, Try.f5.params[j]? = some t → args[j]? = some v → Value.okWide Try.prog W .any base t v := hval0
  have hW' := hW
  obtain ⟨p, q, hA0, hV, rfl, hfz, hnd⟩ := hW
  have hA : DataW.TrodAll enc Try.prog W 0 (fun _ => true) true Try.f5.params.toList args.toList ds p := hA0
  rw [Try.params5] at hA hval hsz
  obtain ⟨v0, vs0, d0, ds0, p0, q0, hargs, rfl, rfl, h0, r0⟩ := trodAll_cons hA
  obtain ⟨v1, vs1, d1, ds1, p1, q1, rfl, rfl, rfl, h1, r1⟩ := trodAll_cons r0
  obtain ⟨v2, vs2, d2, ds2, p2, q2, rfl, rfl, rfl, h2, r2⟩ := trodAll_cons r1
  obtain ⟨rfl, rfl, rfl⟩ := trodAll_nil r2
  obtain rfl : args = #[v0, v1, v2] := by cases args; simp_all
  obtain ⟨rfl, rfl⟩ := trodVars_none hV
  obtain ⟨n2, rfl, rfl, rfl, wn2⟩ := open_int Try.underlying3 (hval 2 3 v2 rfl rfl) h2
  obtain ⟨a1, len1, cap1, rfl⟩ := okWide_slice Try.underlying27 (hval 1 27 v1 rfl rfl)
  have k0 := h0
  have k1 := h1
  have lt0 : ∀ x ∈ p0, x.block < W.heap.size := by obtain ⟨m, hm⟩ := k0; exact DataW.trod_lt m _ _ _ hm
  have lt1 : ∀ x ∈ p1, x.block < W.heap.size := by obtain ⟨m, hm⟩ := k1; exact DataW.trod_lt m _ _ _ hm
  obtain ⟨z1, w1⟩ : ∃ zs, IsRow .u8 W a1 len1 cap1 zs := by
    obtain ⟨fuel, hf⟩ := h1
    rcases open_ints Try.underlying27 Try.underlying5 (by kernel_rfl) hf with ⟨hcs, _⟩ | ⟨x, l, c, zs, hcs, _, hl, hm, hz, _, hcell, hwz⟩
    · simp [Value.cells] at hcs
      obtain ⟨rfl, rfl, rfl⟩ := hcs
      exact ⟨[], .inl ⟨rfl, rfl, rfl, rfl⟩⟩
    · simp [Value.cells] at hcs
      obtain ⟨rfl, rfl, rfl⟩ := hcs
      exact ⟨zs, .inr ⟨_, rfl, hl, hm, by simpa using hz, hcell, hwz⟩⟩
  have y1 : len1 * 1 ≤ 140737488351232 := sized_ints hsz (j := 1) (t := 27) rfl rfl Try.underlying27 Try.underlying5 (by kernel_rfl) (by kernel_rfl) h1
  obtain ⟨l1, rfl, hr1', hm1, hw1, hc1⟩ := ReadsInt.ofRowC w1
  have hr1 := Kd.C_of_reads (d := (0 : Int)) (h1 := fun _ => rfl) hr1'
  obtain ⟨c0, c1, c2, c3, y0, y1, y2, y3, n, rfl, rfl, rfl, g0, g1, g2, g3⟩ := open_agg4 Try.underlying25 (by kernel_rfl) (by kernel_rfl) (hval 0 25 v0 rfl rfl) h0
  obtain ⟨f, e0, _, wf0⟩ := DataW.trod_int Try.underlying3 g0
  obtain ⟨t, e1, _, wf1⟩ := DataW.trod_int Try.underlying3 g1
  obtain ⟨b, e2, _, wf2⟩ := DataW.trod_int Try.underlying22 g2
  obtain ⟨A, len, cap, e3⟩ := slice_form Try.underlying23 g3
  simp only [List.cons.injEq, and_true] at e0 e1 e2 e3
  subst e0 e1 e2 e3
  obtain ⟨l, hl, hc, hr, _, hx⟩ := ints_C Try.underlying23 Try.underlying3 (by kernel_rfl) g3
  subst hl
  have hreach : l.length < 17592186044416 := by
    rcases hx with ⟨_, h⟩ | ⟨sp, h⟩
    · omega
    · have h8 : Try.prog.bytesOf 3 = 8 := by kernel_rfl
      have := weight_field (j := 0) (t := 25) (i := 3) hsz rfl rfl Try.underlying25 (by rfl) (by simp only [h]; rfl) Try.underlying23
      rw [h8] at this
      simp only [lits, List.length_map, reachBytes] at this
      omega
  have hb : 0 ≤ b ∧ b < 4294967296 := by
    have hmin : IntKind.u32.min = 0 := rfl
    have hmax : IntKind.u32.max = 4294967295 := rfl
    simp only [Lit.wf, Bool.and_eq_true, decide_eq_true_eq] at wf2
    omega
  clear hA0 hval0 hsz0 hsz
  have hcut : -9223372036854775808 ≤ n2 ∧ n2 < 9223372036854775808 := by
    have hmin : IntKind.i64.min = -9223372036854775808 := rfl
    have hmax : IntKind.i64.max = 9223372036854775807 := rfl
    simp only [Lit.wf, Bool.and_eq_true, decide_eq_true_eq] at wn2
    omega
  refine (law_row f t b A cap l a1 cap1 l1 n2 W hr hc hr1 hc1 (Ld.wf_bytes hw1) (by omega) hreach hb hcut).mono fun e W' ⟨he, bel⟩ => ?_
  subst he
  exact ⟨_, rfl, _, _, _, [], _, [], hW', trodAll_mk1 (shut_bool Try.underlying4 _), (trodAll_cons_mk (Below.trod laidOut (by kernel_rfl) (of_decide_eq_true (by kernel_rfl)) k0 bel lt0) (trodAll_cons_mk (Below.trod laidOut (by kernel_rfl) (of_decide_eq_true (by kernel_rfl)) k1 bel lt1) (trodAll_cons_mk (shut_int Try.underlying3 wn2) trodAll_mk0))), rfl, bel.frame _, fun h => by cases h⟩
theorem over : Rows.witnessBackRow.holds Try.pinned (OpenSpec.ofChange Rows.witnessBackSpec) :=
  OpenClaim.holds_of_wide 5 Try.f5 rfl rfl rfl rfl rfl rfl rfl ⟨rfl, rfl, rfl, rfl, rfl⟩ rfl rfl rfl rfl rfl (by kernel_rfl) Try.func5 (by kernel_rfl)
    (of_decide_eq_true (by kernel_rfl)) (by unfold Func.isWrapper; first | (rw [if_pos (by decide +kernel)]; kernel_rfl) | (rw [if_neg (by decide +kernel)]; exact ⟨rfl, rfl⟩))
    (fun os started H enc _ => lifted os started H enc)
end Go.Proofs.Ytfgoangcckiffaa.witnessBack
namespace Go.Proofs.Ytfgoangcckiffaa
theorem witnessBack_holds : Rows.WitnessBackSaid := witnessBack.over
#print axioms witnessBack_holds
end Go.Proofs.Ytfgoangcckiffaa
