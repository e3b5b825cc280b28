/- This text lets a drawn region of reads, within a round of a range over a function, be walked in the text's order. -/
import Derived.Sort.QuietTacIn
import Derived.RangeFuncCalls
import Derived.RangeFuncNested
namespace Go.Proofs.Ytbaciaolhfmfkaa.Vq
open Go
variable {F : Fence} {n : Nat} {P : Program}
theorem upon_round (l : Nat) {o : Oper} {a : Act} {K : Act → World → Prop} {Q : Exit → Act → World → Prop} (r : Result Next) (h : o.uponIn F n P a K Q r) : o.uponIn (F.inRound l) n P a K Q r := by
  cases r with
  | ok x w => cases x <;> exact h
  | halt x w => exact h
theorem oper_round (l : Nat) {o : Oper} {a : Act} {w : World} {K : Act → World → Prop} {Q : Exit → Act → World → Prop} (hro : F.round = none) (hd : ∀ c, o.op ≠ .defer c) (h : o.wpIn F n P a w K Q) : o.wpIn (F.inRound l) n P a w K Q := by
  unfold Oper.wpIn at *
  refine ⟨h.1, ?_⟩
  rw [Fence.inRound_round, Oper.semAt_eq _ _ _ hd]
  rw [hro, Oper.semAt_none] at h
  exact upon_round l _ h.2
theorem op_round (l : Nat) {ops : Array Oper} {Q : Exit → Act → World → Prop} {i : Nat} {K K' : Act → World → Prop} {a : Act} {w : World} (hro : F.round = none) (hd : ∀ (i : Nat) (o : Oper), ops[i]? = some o → ∀ c, o.op ≠ .defer c) (hK : ∀ a w, K a w → K' a w)
    (h : wpOpIn F n P ops Q i K a w) : wpOpIn (F.inRound l) n P ops Q i K' a w := by
  unfold wpOpIn at *
  split
  · rename_i ho
    simp only [ho] at h
    exact hK _ _ h
  · rename_i o ho
    simp only [ho] at h
    split
    · rename_i hw
      simp only [hw, if_true] at h
      exact oper_round l hro (hd i o ho) (Oper.wpIn_mono hK h)
    · rename_i hw
      simp only [hw] at h
      exact ⟨h.1, hK _ _ h.2⟩
theorem any_round (l : Nat) {md : Region.Mode} {ops : Array Oper} {Q : Exit → Act → World → Prop} (hro : F.round = none) (hd : ∀ (i : Nat) (o : Oper), ops[i]? = some o → ∀ c, o.op ≠ .defer c) :
    ∀ (fuel : Nat) (listed : Array Bool) (a : Act) (w : World), wpAnyIn F n P md ops Q fuel listed a w → wpAnyIn (F.inRound l) n P md ops Q fuel listed a w
  | 0, _, _, _, h => h
  | fuel + 1, _, _, _, h => ⟨h.1, fun i hi => op_round l hro hd (fun a w h => any_round l hro hd fuel _ a w h) (h.2 i hi)⟩
def noDefer (o : Oper) : Bool := match o.op with | .defer _ => false | _ => true
theorem noDefer_ne {o : Oper} (h : noDefer o = true) (c : Call) : o.op ≠ .defer c := by
  intro e
  unfold noDefer at h
  rw [e] at h
  cases h
/-- ONE WALK IN THE TEXT'S ORDER, IN A ROUND. -/
theorem region_quiet_round {l id : Nat} {Q : Exit → Act → World → Prop} {a : Act} {w : World} {os : List Oper} (hro : F.round = none) (hm : P.follows .mixedOrders = true) (hB : Region.lexB .any os.toArray = true) (hd : os.all noDefer = true)
    (h : wpQuietIn F n P os.toArray (fun w' => ∃ n, w' = w.drewN n) (fun a' => ∀ w', (∃ n, w' = w.drewN n) → Q .normal a' w') os a) : (Code.region id os.toArray true).wpIn (F.inRound l) n P Q a w := by
  have hB' := hB
  simp only [Region.lexB, Bool.and_eq_true] at hB
  refine wpIn_region_any hm (any_round l hro (fun i o ho c => ?_) _ _ _ _ (wpAnyIn_of_quiet (C := fun w' => ∃ n, w' = w.drewN n) (Q := fun a' => ∀ w', (∃ n, w' = w.drewN n) → Q .normal a' w') hro (fun _ w' hw' h => h w' hw') _ _ _ _ ⟨1, rfl⟩ ?_))
  · rw [List.getElem?_toArray] at ho
    exact noDefer_ne (List.all_eq_true.1 hd o (List.mem_of_getElem? ho)) c
  · have := wpAnyQIn_lex (F := F) (n := n) (C := fun w' => ∃ n, w' = w.drewN n) (md := .any) hB.1 os 0 (Array.replicate os.toArray.size false) a (by simp) (by simpa using hB.2) h
    simpa using this
open Go.RowKit
/-- A RANGE OVER A FUNCTION WHOSE VARIABLE LIES IN A BOX THAT EACH ROUND MAKES. -/
theorem rangeBox {α : Type} {g : Operand} {ps : Array Tmp} {assign body : Code} {Q : Exit → Act → World → Prop} {a : Act} {w : World}
    (hro : F.round = none) (h1 : 1 ≤ n) {gf : Nat} {lb : Array Value} (hg : a.eval g = .func (.func gf) #[] lb) (hFg : F.fn gf) (eg : ∀ args w, (callFunc gf args).run P w = .ok (.enter gf args) w)
    {encs : α → Array Value} {Kp : World → World → Prop} {S Sp : List α → Prop} {N : Nat} {w0 : World} (hseq : SeqStopsK F (n - 1) P gf lb encs Kp S Sp N w0)
    (hKt : ∀ {A B C : World}, Kp A B → Kp B C → Kp A C) (hKb : ∀ (W : World) (l : Nat) (o o' : Obj), w.heap.size ≤ l → W.heap[l]? = some o → o.isCells = false → o.isWalk = false → Kp W (W.putObj l o')) (hb0 : Below w0.heap.size w0 w) (hps : ∀ x, (encs x).size = ps.size)
    (I : List α → World → Prop) (Ix : Code → List α → World → Prop) (hI : OwnFrom w.heap.size I) (hIx : ∀ c, OwnFrom w.heap.size (Ix c)) (h0 : I [] w) (hIw : ∀ pre W, I pre W → w.heap.size ≤ W.heap.size) (fr : α → Nat → Act) (bx : α → Obj) (hbx : ∀ x, (bx x).isCells = true)
    (hassign : ∀ (l : Nat) (pre : List α) (x : α) (W : World) (br : Nat) (K : Act → World → Prop), br = W.heap.size → I pre W → (∀ W', KeepsFrom w.heap.size W W' → Kp W W' → I pre W' → W'.heap[br]? = some (bx x) → K (fr x br) W') →
      assign.wpIn (F.inRound l) (n - 1 - 1) P (Exit.then K (fun _ _ _ => False)) { tmps := (ps.zip (encs x)).foldl (fun t (p, v) => t.setIfInBounds p v) a.tmps, defers := [] } W)
    (hbody : ∀ (l : Nat) (pre : List α) (x : α) (br : Nat) (W : World), I pre W → W.heap[br]? = some (bx x) → w.heap.size ≤ br → pre.length < N → body.wpIn (F.inRound l) (n - 1 - 1) P (ownPostG w.heap.size Kp I Ix (pre ++ [x]) W) (fr x br) W)
    (hdone : ∀ (D : Nat) (xs : List α) (W : World), w.heap.size ≤ D → S xs → I xs W → W.heap[D]? = some (.deferred (some [])) → Q .normal { a with defers := { target := .collected D, args := #[] } :: a.defers } W)
    (hstop : ∀ (D : Nat) (c : Code) (pre : List α) (W : World), w.heap.size ≤ D → Sp pre → Ix c pre W → W.heap[D]? = some (.deferred (some [])) → c.wpIn F n P Q { a with defers := { target := .collected D, args := #[] } :: a.defers } W) :
    (Code.rangeFunc g ps assign body).wpIn F n P Q a w :=
  wpIn_rangeFunc_ownH hro h1 hg hFg eg hseq hKt hKb hb0 hps I Ix hI hIx h0 (fun x a' W => ∃ br, a' = fr x br ∧ W.heap[br]? = some (bx x) ∧ w.heap.size ≤ br)
    (fun x a' => by
      rintro u W W' row ⟨br, h1, h2, h3⟩ hg hr
      refine ⟨br, h1, (hg.block br (Array.getElem?_eq_some_iff.1 h2).1 (fun e => ?_)).trans h2, h3⟩
      obtain ⟨_, o, ho, hc⟩ := hr br e.symm
      rw [h2] at ho
      cases ho
      rw [hbx] at hc
      cases hc)
    (fun l pre x W K hi hK => hassign l pre x W _ K rfl hi (fun W' k1 k2 k3 k4 => hK _ _ k1 k2 k3 ⟨_, rfl, k4, hIw pre W hi⟩))
    (fun l pre x a' W _ _ hi ⟨br, e, h2, h3⟩ hlen => by subst e; exact hbody l pre x br W hi h2 h3 hlen) hdone hstop
end Go.Proofs.Ytbaciaolhfmfkaa.Vq
