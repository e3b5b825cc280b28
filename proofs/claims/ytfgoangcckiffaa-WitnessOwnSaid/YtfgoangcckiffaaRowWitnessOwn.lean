/- WitnessOwn: what is handed in stays and isn't kept, answers are new memory; whatever the witness that is handed in (no conditions). -/
import Derived.Test.YtfgoangcckiffaaRows
import Derived.Test.YtfgoangcckiffaaOg
import Derived.Test.YtfgoangcckiffaaOb
import Derived.WalkKit
import Derived.ProofKit
import Derived.OpenShut
import Derived.ShutString
import Derived.ChangeOld
import Derived.Below
import Derived.SizedLaws
import Derived.Lib.SmallJoins
import Derived.Test.YtfgoangcckiffaaWSized
namespace Go.Proofs.Ytfgoangcckiffaa.witnessOwn
open Go.ChangeShapes Go.WideShapes Go.ChangeAt Go.RowKit Go.Joins
open Go.Proofs.YtfgoangcckiffaaW.PrintWords
set_option linter.unusedVariables false
theorem own : ownKnob Try.prog.godebug = none := by kernel_rfl
theorem laidOut : laidOutB Try.prog = true := by kernel_rfl

/-- a slice of ints that reads, as a row that is read -/
theorem ints_C {H : Type} {enc : TypeId × Value → H} {P : Program} {W : World} {base : Nat} {spare : Nat → Bool} {held : Bool} {t e : TypeId} {k : IntKind} {fuel : Nat} {a : Option Addr} {len cap : Nat} {x : DataW H × List MemPlace}
    (hu : P.underlying t = some (.slice e)) (he : P.underlying e = some (.int k)) (hc : P.cellsOf e = 1) (hf : DataW.trod enc P W base spare held fuel t [.slice a len cap] = some x) :
    ∃ l : List Int, l.length = len ∧ len ≤ cap ∧ Kd.C (Kd.int k) W a l.length l ∧ (∀ n ∈ l, (Lit.int k n).wf = true) ∧ (x.1 = .nil ∧ len = 0 ∨ ∃ sp, x.1 = .slice (lits k l) sp) := by
  rcases open_ints hu he hc hf with ⟨hcs, hx⟩ | ⟨ad, l, c, zs, hcs, _, hl, hm, hz, hx, hcell, hwz⟩
  · simp at hcs
    obtain ⟨rfl, rfl, rfl⟩ := hcs
    exact ⟨[], rfl, Nat.le_refl _, Kd.C_of_reads (d := (0 : Int)) (h1 := fun _ => rfl) ⟨rfl, by simp, fun h => absurd h (by simp)⟩, by simp, by left; subst hx; simp⟩
  · simp at hcs
    obtain ⟨rfl, rfl, rfl⟩ := hcs
    have hlz : len ≤ zs.length := by rw [hz]; split <;> omega
    have hlt : (zs.take len).length = len := by simp; omega
    refine ⟨zs.take len, hlt, hl, Kd.C_of_reads (d := (0 : Int)) (h1 := fun _ => rfl) ⟨rfl, ?_, fun h => ⟨ad, rfl, fun j hj => ?_⟩⟩, fun n hn => hwz n (List.mem_of_mem_take hn), ?_⟩
    · unfold maxLen at hm; omega
    · rw [hlt] at hj
      rw [hcell j (by omega)]
      simp [List.getD_eq_getElem?_getD, hj]
    · right; subst hx; exact ⟨_, rfl⟩

theorem law_row (f t b : Int) (A : Option Addr) (c : Nat) (es : List Int) (w : World) (hr : Kd.C (Kd.int .i64) w A es.length es) (hc : es.length ≤ c) (hel : es.length < 17592186044416) (q : 0 ≤ b ∧ b < 4294967296) :
    Calls Try.prog 6 #[.agg #[.int .i64 f, .int .i64 t, .int .u32 b, .slice A es.length c]] w fun e w' => e = .returned (.bool true) ∧ Below w.heap.size w w' := by
  by_cases hg : Good.goodV f t es = 0
  · exact Og.own_good f t b A c es w hr hc hel hg q.1 q.2
  · exact Ob.own_bad f t b A c es w hr hc hel hg
theorem weight_field {H : Type} {P : Program} {ts : List TypeId} {ds : List (DataW H)} {j : Nat} {t t' e : TypeId} {fs : Array Field} {parts elems spare : List (DataW H)} {i : Nat}
    (hsz : (DataW.weightsEach P ts ds).all (· ≤ reachBytes) = true) (ht : ts[j]? = some t) (hd : ds[j]? = some (.agg parts)) (hu : P.underlying t = some (.struct fs))
    (hf : (fs.toList.map (·.type))[i]? = some t') (hp : parts[i]? = some (.slice elems spare)) (hu' : P.underlying t' = some (.slice e)) : (elems.length + spare.length) * P.bytesOf e ≤ reachBytes := by
  have h1 : ∀ n ∈ (DataW.agg parts).weights P t, n ≤ reachBytes := fun n hn => by
    have := List.all_eq_true.1 hsz n (DataW.weights_mem_each ht hd n hn)
    simpa using this
  refine h1 _ ?_
  simp only [DataW.weights, hu]
  exact DataW.weights_mem_each hf hp _ (by simp [DataW.weights, hu'])

set_option maxRecDepth 100000 in
theorem lifted (os : Os) (started : os.Started) (H : Type) (enc : TypeId × Value → H) :
    ReturnsInHanded {} Try.checked os 6 .any (Rows.witnessOwnSpec.pre6 enc Try.prog Try.f6 Rows.witnessOwnRow.domain false) (Rows.witnessOwnSpec.post enc Try.prog Try.f6 false true false false) := by
  refine returnsInHanded_of_change_sized (C := Try.checked) own started (by kernel_rfl) Try.func6
    (ChangeSpec.witness6 (enc := enc) (C := Try.checked) false ⟨#[], #[.agg #[.int .i64 0, .int .i64 0, .int .u32 0, .slice none 0 0]], []⟩ 8 (by kernel_rfl) (by kernel_rfl) (by kernel_rfl) (by kernel_rfl)) ?_
  intro W base args ds gs before hval0 hW hcnd hsz0 _
  have hsz : (DataW.weightsEach Try.prog (Try.f6.params.toList ++ Rows.witnessOwnSpec.plain.varTypes Try.prog) (ds ++ gs)).all (· ≤ reachBytes) = true := hsz0
  have hval : ∀ (j : Nat) t v, Try.f6.params[j]? = some t → args[j]? = some v → Value.okWide Try.prog W .any base t v := hval0
  have hW' := hW
  obtain ⟨p, q, hA0, hV, rfl, hfz, hnd⟩ := hW
  have hA : DataW.TrodAll enc Try.prog W 0 (fun _ => true) true Try.f6.params.toList args.toList ds p := hA0
  rw [Try.params6] at hA hval hsz
  obtain ⟨v0, vs0, d0, ds0, p0, q0, hargs, rfl, rfl, h0, r0⟩ := trodAll_cons hA
  obtain ⟨rfl, rfl, rfl⟩ := trodAll_nil r0
  obtain rfl : args = #[v0] := by cases args; simp_all
  obtain ⟨rfl, rfl⟩ := trodVars_none hV
  have k0 := h0
  have lt0 : ∀ x ∈ p0, x.block < W.heap.size := by obtain ⟨m, hm⟩ := k0; exact DataW.trod_lt m _ _ _ hm
  obtain ⟨c0, c1, c2, c3, y0, y1, y2, y3, n, rfl, rfl, rfl, g0, g1, g2, g3⟩ := open_agg4 Try.underlying25 (by kernel_rfl) (by kernel_rfl) (hval 0 25 v0 rfl rfl) h0
  obtain ⟨f, e0, _, wf0⟩ := DataW.trod_int Try.underlying3 g0
  obtain ⟨t, e1, _, wf1⟩ := DataW.trod_int Try.underlying3 g1
  obtain ⟨b, e2, _, wf2⟩ := DataW.trod_int Try.underlying22 g2
  obtain ⟨A, len, cap, e3⟩ := slice_form Try.underlying23 g3
  simp only [List.cons.injEq, and_true] at e0 e1 e2 e3
  subst e0 e1 e2 e3
  obtain ⟨l, hl, hc, hr, _, hx⟩ := ints_C Try.underlying23 Try.underlying3 (by kernel_rfl) g3
  subst hl
  have hreach : l.length < 17592186044416 := by
    rcases hx with ⟨_, h⟩ | ⟨sp, h⟩
    · omega
    · have h8 : Try.prog.bytesOf 3 = 8 := by kernel_rfl
      have := weight_field (j := 0) (t := 25) (i := 3) hsz rfl rfl Try.underlying25 (by rfl) (by simp only [h]; rfl) Try.underlying23
      rw [h8] at this
      simp only [lits, List.length_map, reachBytes] at this
      omega
  have hb : 0 ≤ b ∧ b < 4294967296 := by
    have hmin : IntKind.u32.min = 0 := rfl
    have hmax : IntKind.u32.max = 4294967295 := rfl
    simp only [Lit.wf, Bool.and_eq_true, decide_eq_true_eq] at wf2
    omega
  clear hA0 hval0 hsz0 hsz
  refine (law_row f t b A cap l W hr hc hreach hb).mono fun e W' ⟨he, bel⟩ => ?_
  subst he
  exact ⟨_, rfl, _, _, _, [], _, [], hW', trodAll_mk1 (shut_bool Try.underlying4 _), (trodAll_cons_mk (Below.trod laidOut (by kernel_rfl) (of_decide_eq_true (by kernel_rfl)) k0 bel lt0) trodAll_mk0), rfl, bel.frame _, fun h => by cases h⟩

theorem over : Rows.witnessOwnRow.holds Try.pinned (OpenSpec.ofChange Rows.witnessOwnSpec) :=
  OpenClaim.holds_of_wide 6 Try.f6 rfl rfl rfl rfl rfl rfl rfl ⟨rfl, rfl, rfl, rfl, rfl⟩ rfl rfl rfl rfl rfl (by kernel_rfl) Try.func6 (by kernel_rfl)
    (of_decide_eq_true (by kernel_rfl)) (by unfold Func.isWrapper; first | (rw [if_pos (by decide +kernel)]; kernel_rfl) | (rw [if_neg (by decide +kernel)]; exact ⟨rfl, rfl⟩))
    (fun os started H enc _ => lifted os started H enc)
end Go.Proofs.Ytfgoangcckiffaa.witnessOwn
namespace Go.Proofs.Ytfgoangcckiffaa
theorem witnessOwn_holds : Rows.WitnessOwnSaid := witnessOwn.over
#print axioms witnessOwn_holds
end Go.Proofs.Ytfgoangcckiffaa
