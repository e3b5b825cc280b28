/- This text proves the walk of Decode: for every list of bytes, without conditions but that it reads. -/
import Derived.Test.YtfgoangcckiffaaTk
import Derived.Test.YtfgoangcckiffaaGood
import Derived.Defers
import Derived.Recover
import Derived.Deep.RegionHeld3
namespace Go.Proofs.Ytfgoangcckiffaa.Dc
open Go.RowKit Go.Proofs.YtfgoangcckiffaaW.PrintWords Go.Proofs.YtfgoangcckiffaaW.PrintLast Go.Proofs.YtfgoangcckiffaaW.PrintMore
open Go.Proofs.Ytfgoangcckiffaa.Good Go.Proofs.Ytfgoangcckiffaa.Tk Go.Proofs.Ytfgoangcckiffaa.PWitnessEncodes
set_option linter.unusedVariables false

/-- the two results' variables -/
def Vars (w : World) (g h : Nat) (f t b : Int) (v : Value) (e : Int) : Prop :=
  w.heap[g]? = some (.cells #[.int .i64 f, .int .i64 t, .int .u32 b, v] 25 (0, 0)) ∧ w.heap[h]? = some (.cells #[.int .i64 e] 28 (0, 0)) ∧ g ≠ h

section
variable {w : World} {g h : Nat} {f t b : Int} {v : Value} {e : Int}
theorem vars_0 (hv : Vars w g h f t b v e) (x : Int) : Vars (w.setCell ⟨g, 0, none⟩ (.int .i64 x)) g h x t b v e :=
  ⟨blk_put hv.1 0 _ rfl, (Below.heap_setCell _ _ _ _ (fun h' => hv.2.2 h'.symm)).trans hv.2.1, hv.2.2⟩
theorem vars_1 (hv : Vars w g h f t b v e) (x : Int) : Vars (w.setCell ⟨g, 1, none⟩ (.int .i64 x)) g h f x b v e :=
  ⟨blk_put hv.1 1 _ rfl, (Below.heap_setCell _ _ _ _ (fun h' => hv.2.2 h'.symm)).trans hv.2.1, hv.2.2⟩
theorem vars_2 (hv : Vars w g h f t b v e) (x : Int) : Vars (w.setCell ⟨g, 2, none⟩ (.int .u32 x)) g h f t x v e :=
  ⟨blk_put hv.1 2 _ rfl, (Below.heap_setCell _ _ _ _ (fun h' => hv.2.2 h'.symm)).trans hv.2.1, hv.2.2⟩
theorem vars_3 (hv : Vars w g h f t b v e) (x : Value) : Vars (w.setCell ⟨g, 3, none⟩ x) g h f t b x e :=
  ⟨blk_put hv.1 3 _ rfl, (Below.heap_setCell _ _ _ _ (fun h' => hv.2.2 h'.symm)).trans hv.2.1, hv.2.2⟩
theorem vars_e (hv : Vars w g h f t b v e) (x : Int) : Vars (w.setCell ⟨h, 0, none⟩ (.int .i64 x)) g h f t b v x :=
  ⟨(Below.heap_setCell _ _ _ _ hv.2.2).trans hv.1, blk_put hv.2.1 0 _ rfl, hv.2.2⟩
theorem vars_zero (hv : Vars w g h f t b v e) :
    Vars (((((w.setCell ⟨g, 0, none⟩ (.int .i64 0)).setCell ⟨g, 1, none⟩ (.int .i64 0)).setCell ⟨g, 2, none⟩ (.int .u32 0)).setCell ⟨g, 3, none⟩ (.slice none 0 0)).setCell ⟨h, 0, none⟩ (.int .i64 160)) g h 0 0 0 (.slice none 0 0) 160 :=
  vars_e (vars_3 (vars_2 (vars_1 (vars_0 hv _) _) _) _) _
def zeroed (w : World) (g h : Nat) : World := ((((w.setCell ⟨g, 0, none⟩ (.int .i64 0)).setCell ⟨g, 1, none⟩ (.int .i64 0)).setCell ⟨g, 2, none⟩ (.int .u32 0)).setCell ⟨g, 3, none⟩ (.slice none 0 0)).setCell ⟨h, 0, none⟩ (.int .i64 160)
theorem zeroed_below {w0 : World} {n : Nat} (hb : Below n w0 w) (hg : n ≤ g) (hh : n ≤ h) : Below n w0 (zeroed w g h) :=
  ((((hb.setCell hg _).setCell hg _).setCell hg _).setCell hg _).setCell hh _
theorem vars_keep {r : Nat} {w' : World} (hv : Vars w g h f t b v e) (hk : KeepBut w w' r none) (h1 : g ≠ r) (h2 : h ≠ r) : Vars w' g h f t b v e :=
  ⟨hk.blk hv.1 h1 (by simp), hk.blk hv.2.1 h2 (by simp), hv.2.2⟩
end

theorem catch_idle (p q : Addr) (w : World) :
    CallsD Try.prog 18 #[.pointer (some p), .pointer (some q)] .returning w fun e u' w' => e = .returned (.tuple #[]) ∧ u' = .returning ∧ w' = w := by
  have hnil : ∀ w : World, (binOp BinOp.neq 20 .nilIface .nilIface).run Try.prog w = .ok (.bool false) w := fun _ => by kernel_rfl
  refine callsD_of_wpS Try.func18 rfl fun c₀ cs hu => ?_
  apply wpS_seq
  apply wpS_region
  simp [wpOpsS, go_sem, recoverD, hu, Try.ntmps18, Exit.thenS]
  refine wpS_of_wp ?_
  rw [show (#[Value.pointer (some p), .pointer (some q)] ++ ((Array.replicate 5 undef).setIfInBounds 1 Value.nilIface).setIfInBounds 0 Value.nilIface) = #[Value.pointer (some p), .pointer (some q), .nilIface, .nilIface, undef, undef, undef] from rfl]
  go_wp2
  cases c₀
  simp_all [bodyPostS, results, Try.results18]

theorem catch_panicking (g h : Nat) (f t b : Int) (v : Value) (e : Int) (w : World) (hv : Vars w g h f t b v e) :
    CallsD Try.prog 18 #[.pointer (some ⟨g, 0, none⟩), .pointer (some ⟨h, 0, none⟩)] (.panicking fault) w fun e u' w' =>
      e = .returned (.tuple #[]) ∧ u' = .panicking ({ v := .iface 56 (.agg #[]), recovered := true } :: []) ∧ w' = zeroed w g h := by
  have hnil : ∀ w : World, (binOp BinOp.neq 20 (.iface 56 (.agg #[])) .nilIface).run Try.prog w = .ok (.bool true) w := fun _ => by kernel_rfl
  obtain ⟨hg, hh, hne⟩ := hv
  have c0 : w.cell? ⟨g, 0, none⟩ = some (.int .i64 f) := (blk_cell hg 0).trans rfl
  have c1 : w.cell? ⟨g, 1, none⟩ = some (.int .i64 t) := (blk_cell hg 1).trans rfl
  have c2 : w.cell? ⟨g, 2, none⟩ = some (.int .u32 b) := (blk_cell hg 2).trans rfl
  have c3 : w.cell? ⟨g, 3, none⟩ = some v := (blk_cell hg 3).trans rfl
  have c4 : w.cell? ⟨h, 0, none⟩ = some (.int .i64 e) := (blk_cell hh 0).trans rfl
  have f0 := blk_frozen hg 0
  have f1 := blk_frozen hg 1
  have f2 := blk_frozen hg 2
  have f3 := blk_frozen hg 3
  have f4 := blk_frozen hh 0
  have hne' : ¬ h = g := fun h' => hne h'.symm
  refine callsD_of_wpS Try.func18 rfl fun c₀ cs hu => ?_
  apply wpS_seq
  apply wpS_region
  simp [wpOpsS, go_sem, recoverD, hu, Try.ntmps18, Exit.thenS]
  refine wpS_of_wp ?_
  rw [show (#[Value.pointer (some ⟨g, 0, none⟩), .pointer (some ⟨h, 0, none⟩)] ++ ((Array.replicate 5 undef).setIfInBounds 1 (Value.iface 56 (.agg #[]))).setIfInBounds 0 (.iface 56 (.agg #[]))) = #[Value.pointer (some ⟨g, 0, none⟩), .pointer (some ⟨h, 0, none⟩), .iface 56 (.agg #[]), .iface 56 (.agg #[]), undef, undef, undef] from rfl]
  go_wp2
  cases c₀
  simp_all [bodyPostS, results, Try.results18, zeroed]

/-! what it reads, plain -/
def bitsG : Nat → Nat → Int → List Int → Option (Int × List Int)
  | 0, _, acc, l => some (acc, l)
  | _ + 1, _, _, [] => none
  | f + 1, i, acc, x :: l => bitsG f (i + 1) (acc + x * 256 ^ i) l
def numsG : Nat → List Int → List Int → Option (List Int × List Int)
  | 0, es, l => some (es, l)
  | n + 1, es, l => match numV l with
    | none => none
    | some (m, k) => numsG n (es ++ [m]) (l.drop k)
def dec4 (f t b : Int) (es rest : List Int) : Option (Int × Int × Int × List Int) := if rest = [] ∧ goodV f t es = 0 then some (f, t, b, es) else none
def dec3b (f t b : Int) (x : Option (List Int × List Int)) : Option (Int × Int × Int × List Int) := match x with
  | none => none
  | some (es, rest) => dec4 f t b es rest
def dec3 (f t b : Int) (l : List Int) : Option (Int × Int × Int × List Int) := match numV l with
  | none => none
  | some (n, k) => if n > 1024 then none else dec3b f t b (numsG n.toNat [] (l.drop k))
def dec2b (f t : Int) (x : Option (Int × List Int)) : Option (Int × Int × Int × List Int) := match x with
  | none => none
  | some (b, r) => dec3 f t b r
def dec2 (f : Int) (l : List Int) : Option (Int × Int × Int × List Int) := match numV l with
  | none => none
  | some (t, k) => dec2b f t (bitsG 4 0 0 (l.drop k))
def dec1 (l : List Int) : Option (Int × Int × Int × List Int) := match numV l with
  | none => none
  | some (f, k) => dec2 f (l.drop k)
def decV : List Int → Option (Int × Int × Int × List Int)
  | [] => none
  | x :: r => if x = 183 then dec1 r else none

/-- what Decode answers -/
def DecQ (w : World) (l : List Int) (e : Ending) (w' : World) : Prop :=
  Below w.heap.size w w' ∧ (∀ f t b es, decV l = some (f, t, b, es) → ∃ v, e = .returned (.tuple #[.agg #[.int .i64 f, .int .i64 t, .int .u32 b, v], .int .i64 0]) ∧ Kd.R (Kd.int .i64) 3 w' w.heap.size (fun _ => True) v es) ∧
    (decV l = none → e = .returned (.tuple #[.agg #[.int .i64 0, .int .i64 0, .int .u32 0, .slice none 0 0], .int .i64 160]))

/-- what stands behind the literals -/
def St (w W : World) (g h r : Nat) (f t b : Int) (v : Value) (e : Int) (l : List Int) : Prop :=
  Vars W g h f t b v e ∧ Rdr w W r l ∧ g ≠ r ∧ h ≠ r ∧ w.heap.size ≤ g ∧ w.heap.size ≤ h

section
variable {w W W' : World} {g h r : Nat} {f t b e : Int} {v : Value} {l l' : List Int}
theorem st_went (hs : St w W g h r f t b v e l) (hw : Went w W W' r l') : St w W' g h r f t b v e l' :=
  ⟨vars_keep hs.1 hw.2 hs.2.2.1 hs.2.2.2.1, hw.1, hs.2.2⟩
theorem st_zero (hs : St w W g h r f t b v e l) (hd : decV l' = none) : Vars (zeroed W g h) g h 0 0 0 (.slice none 0 0) 160 ∧ DecQ w l' (.returned (.tuple #[.agg #[.int .i64 0, .int .i64 0, .int .u32 0, .slice none 0 0], .int .i64 160])) (zeroed W g h) := by
  obtain ⟨h1, ⟨_, _, _, _, _, hb, _⟩, _, _, h5, h6⟩ := hs
  refine ⟨vars_zero h1, zeroed_below hb h5 h6, fun f t b es h => ?_, fun _ => rfl⟩
  rw [hd] at h
  cases h
end

theorem results_cc {tmps : Array Value} {w : World} {g h : Nat} {f t b e : Int} {v : Value} (h2 : tmps.getD 2 undef = .pointer (some ⟨g, 0, none⟩)) (h3 : tmps.getD 3 undef = .pointer (some ⟨h, 0, none⟩)) (hv : Vars w g h f t b v e) :
    (results Try.f12 tmps).run Try.prog w = .ok (.tuple #[.agg #[.int .i64 f, .int .i64 t, .int .u32 b, v], .int .i64 e]) w := by
  have h2' : tmps[2]?.getD undef = .pointer (some ⟨g, 0, none⟩) := by simpa using h2
  have h3' : tmps[3]?.getD undef = .pointer (some ⟨h, 0, none⟩) := by simpa using h3
  have c4 : w.cell? ⟨h, 0, none⟩ = some (.int .i64 e) := (blk_cell hv.2.1 0).trans rfl
  have c0 : w.cell? ⟨g, 0, none⟩ = some (.int .i64 f) := (blk_cell hv.1 0).trans rfl
  have c1 : w.cell? ⟨g, 1, none⟩ = some (.int .i64 t) := (blk_cell hv.1 1).trans rfl
  have c2 : w.cell? ⟨g, 2, none⟩ = some (.int .u32 b) := (blk_cell hv.1 2).trans rfl
  have c3 : w.cell? ⟨g, 3, none⟩ = some v := (blk_cell hv.1 3).trans rfl
  simp [results, Try.results12, h2', h3', asAddr, go_sem, c0, c1, c2, c3, c4]

/-- the deferred call -/
abbrev dfr (g h : Nat) : List Deferred := [{ target := .fn (.func 18) #[.pointer (some ⟨g, 0, none⟩), .pointer (some ⟨h, 0, none⟩)], args := #[] }]

theorem door_ret {R : Ending → World → Prop} {tmps : Array Value} {w : World} {g h : Nat} {f t b e : Int} {v : Value} (h2 : tmps.getD 2 undef = .pointer (some ⟨g, 0, none⟩)) (h3 : tmps.getD 3 undef = .pointer (some ⟨h, 0, none⟩)) (hv : Vars w g h f t b v e)
    (hR : R (.returned (.tuple #[.agg #[.int .i64 f, .int .i64 t, .int .u32 b, v], .int .i64 e])) w) : bodyPostD Try.prog Try.f12 R .ret { tmps := tmps, defers := dfr g h } w := by
  refine leaves_cons (f := 18) (args := #[.pointer (some ⟨g, 0, none⟩), .pointer (some ⟨h, 0, none⟩)]) (by simp) (by simp [go_sem]) ?_
  refine (catch_idle ⟨g, 0, none⟩ ⟨h, 0, none⟩ _).mono ?_
  rintro e u' w'' ⟨rfl, rfl, rfl⟩
  exact ⟨_, results_cc h2 h3 hv, hR⟩

theorem door_panic {R : Ending → World → Prop} {tmps : Array Value} {w : World} {g h : Nat} {f t b e : Int} {v : Value} (h2 : tmps.getD 2 undef = .pointer (some ⟨g, 0, none⟩)) (h3 : tmps.getD 3 undef = .pointer (some ⟨h, 0, none⟩)) (hv : Vars w g h f t b v e)
    (hR : R (.returned (.tuple #[.agg #[.int .i64 0, .int .i64 0, .int .u32 0, .slice none 0 0], .int .i64 160])) (zeroed w g h)) : bodyPostD Try.prog Try.f12 R (.panic fault) { tmps := tmps, defers := dfr g h } w := by
  refine leaves_cons (f := 18) (args := #[.pointer (some ⟨g, 0, none⟩), .pointer (some ⟨h, 0, none⟩)]) (by simp) (by simp [go_sem]) ?_
  refine (catch_panicking g h _ _ _ _ _ _ hv).mono ?_
  rintro e u' w'' ⟨rfl, rfl, rfl⟩
  exact ⟨_, results_cc h2 h3 (vars_zero hv), hR⟩

section
variable {w W : World} {g h r : Nat} {f t b e : Int} {v : Value} {l l' : List Int} {tmps : Array Value}
theorem st_panic (h2 : tmps.getD 2 undef = .pointer (some ⟨g, 0, none⟩)) (h3 : tmps.getD 3 undef = .pointer (some ⟨h, 0, none⟩)) (hs : St w W g h r f t b v e l) (hd : decV l' = none) : bodyPostD Try.prog Try.f12 (DecQ w l') (.panic fault) { tmps := tmps, defers := dfr g h } W :=
  door_panic h2 h3 hs.1 (st_zero hs hd).2
theorem st_bad (h2 : tmps.getD 2 undef = .pointer (some ⟨g, 0, none⟩)) (h3 : tmps.getD 3 undef = .pointer (some ⟨h, 0, none⟩)) (hs : St w W g h r f t b v e l) (hd : decV l' = none) : bodyPostD Try.prog Try.f12 (DecQ w l') .ret { tmps := tmps, defers := dfr g h } (zeroed W g h) :=
  door_ret h2 h3 (st_zero hs hd).1 (st_zero hs hd).2
end

theorem st_start (w : World) (A : Option Addr) (c : Nat) (l : List Int) (hr : Kd.C (Kd.int .u8) w A l.length l) (hc : l.length ≤ c) :
    St w (((w.alloc (.cells #[.int .i64 0, .int .i64 0, .int .u32 0, .slice none 0 0] 25)).alloc (.cells #[.int .i64 0] 28)).alloc (.cells #[.slice A l.length c] 48)) w.heap.size (w.heap.size + 1) (w.heap.size + 1 + 1) 0 0 0 (.slice none 0 0) 0 l := by
  have e1 : (w.alloc (.cells #[.int .i64 0, .int .i64 0, .int .u32 0, .slice none 0 0] 25)).heap.size = w.heap.size + 1 := by simp
  have e2 : ((w.alloc (.cells #[.int .i64 0, .int .i64 0, .int .u32 0, .slice none 0 0] 25)).alloc (.cells #[.int .i64 0] 28)).heap.size = w.heap.size + 1 + 1 := by simp
  have b1 := blk_new w (.cells #[.int .i64 0, .int .i64 0, .int .u32 0, .slice none 0 0] 25)
  have b2 := blk_new (w.alloc (.cells #[.int .i64 0, .int .i64 0, .int .u32 0, .slice none 0 0] 25)) (.cells #[.int .i64 0] 28)
  have b3 := blk_new ((w.alloc (.cells #[.int .i64 0, .int .i64 0, .int .u32 0, .slice none 0 0] 25)).alloc (.cells #[.int .i64 0] 28)) (.cells #[.slice A l.length c] 48)
  rw [e1] at b2
  rw [e2] at b3
  refine ⟨⟨blk_alloc (blk_alloc b1 _) _, blk_alloc b2 _, by omega⟩, ⟨A, c, b3, hc, hr, ?_, by omega⟩, by omega, by omega, by omega, by omega⟩
  exact below_alloc (below_alloc (below_alloc (Below.refl _ _) _) _) _

section
variable {w W : World} {g h r : Nat} {f t b e : Int} {v : Value} {l : List Int}
theorem st_field {i : Nat} {x : Value} {f' t' b' : Int} {v' : Value} (hs : St w W g h r f t b v e l) (hv : Vars (W.setCell ⟨g, i, none⟩ x) g h f' t' b' v' e) : St w (W.setCell ⟨g, i, none⟩ x) g h r f' t' b' v' e l := by
  obtain ⟨h1, ⟨A, c, a1, a2, a3, a5, a6⟩, h3, h4, h5, h6⟩ := hs
  exact ⟨hv, ⟨A, c, (Below.heap_setCell _ _ _ _ (fun h' => h3 h'.symm)).trans a1, a2, a3, a5.setCell h5 _, a6⟩, h3, h4, h5, h6⟩
theorem st_put0 (hs : St w W g h r f t b v e l) (x : Int) : St w (W.setCell ⟨g, 0, none⟩ (.int .i64 x)) g h r x t b v e l := st_field hs (vars_0 hs.1 x)
theorem st_put1 (hs : St w W g h r f t b v e l) (x : Int) : St w (W.setCell ⟨g, 1, none⟩ (.int .i64 x)) g h r f x b v e l := st_field hs (vars_1 hs.1 x)
theorem st_put2 (hs : St w W g h r f t b v e l) (x : Int) : St w (W.setCell ⟨g, 2, none⟩ (.int .u32 x)) g h r f t x v e l := st_field hs (vars_2 hs.1 x)
theorem st_put3 (hs : St w W g h r f t b v e l) (x : Value) : St w (W.setCell ⟨g, 3, none⟩ x) g h r f t b x e l := st_field hs (vars_3 hs.1 x)
end

theorem st_drew {w W : World} {g h r : Nat} {f t b e : Int} {v : Value} {l : List Int} (hs : St w W g h r f t b v e l) : St w W.drew g h r f t b v e l := st_went hs (went_keep hs.2.1 (below_drew (Below.refl _ _)))

/-- a call that falls -/
theorem falls_ {P : Program} {ops : Array Oper} {Q : Exit → Act → World → Prop} {oi : Oper} {N : Option Tmp} {a : Act} {w : World} {K : Act → World → Prop} {f : FuncId} {fn : Func} {os : Array Operand} {ts : Array TypeId} (hf : P.funcs[f]? = some fn) (hname : (fn.name == "runtime.NumGoroutine") = false) (hb : fn.body.isSome = true) (args : Array Value)
    (hw : Region.wanted oi (yielded ops a.tmps) = true) (hop : oi.op = .call { callee := .value (.func f), args := os, argTypes := ts }) (hargs : os.map a.eval = args)
    (h : Calls P f args w fun e w' => ∃ c, e = .panicked c ∧ Q (.panic c) a w') : if Region.wanted oi (yielded ops a.tmps) = true then Oper.wp P oi a w K Q else K (a.put N undef) w := by
  rw [if_pos hw]
  have hrun : (execOp a.eval oi).run P w = .ok (.enter f args) w := by
    have he := enters_ hf hname hb args w
    unfold execOp
    simp [hop, resolve, Deferred.ofValue, invoke, Act.eval, hargs, he]
  unfold Oper.wp
  rw [hrun]
  exact h.mono (by rintro e w' ⟨c, rfl, hq⟩; exact hq)

/-- the region falls -/
def PanP (g h : Nat) (w : World) : Exit → Act → World → Prop
  | .panic c, a, W => a.tmps.getD 2 undef = .pointer (some ⟨g, 0, none⟩) ∧ a.tmps.getD 3 undef = .pointer (some ⟨h, 0, none⟩) ∧ a.defers = dfr g h ∧ c = fault ∧ (∃ r f t b v e l', St w W g h r f t b v e l')
  | _, _, _ => False
theorem panP_put {g h : Nat} {w : World} {n : Nat} {v : Value} (h2 : n ≠ 2) (h3 : n ≠ 3) : ∀ c a W, PanP g h w (.panic c) (a.put (some n) v) W → PanP g h w (.panic c) a W := by
  rintro c a W ⟨a2, a3, a4, a5⟩
  exact ⟨by simpa [Act.put, Array.getElem?_setIfInBounds, h2] using a2, by simpa [Act.put, Array.getElem?_setIfInBounds, h3] using a3, a4, a5⟩
theorem panP_imp {g h : Nat} {w : World} {l : List Int} {Q : Exit → Act → World → Prop} (hd : decV l = none) (hQ : ∀ a W, bodyPostD Try.prog Try.f12 (DecQ w l) (.panic fault) a W → Q (.panic fault) a W) : ∀ e a W, PanP g h w e a W → Q e a W := by
  intro e a W hp
  cases e <;> try exact hp.elim
  obtain ⟨a2, a3, a4, rfl, r, f, t, b, v, e, l', hs⟩ := hp
  refine hQ _ _ ?_
  cases a
  simp only at a4
  subst a4
  exact st_panic a2 a3 hs hd

theorem p256 (k : Nat) : 256 ^ k = 2 ^ (8 * k) := by rw [show (256 : Nat) = 2 ^ 8 by decide, ← Nat.pow_mul]

theorem or32 (k acc : Nat) (y : Int) (hk : k < 4) (ha : acc < 256 ^ k) (h0 : 0 ≤ y) (h1 : y < 256) : Go.bits .or .u32 (acc : Int) (IntKind.u32.wrap (y * 2 ^ (8 * (k : Int)).toNat)) = ((acc + y.toNat * 256 ^ k : Nat) : Int) := by
  obtain ⟨Y, rfl⟩ : ∃ n : Nat, y = n := ⟨y.toNat, by omega⟩
  have hY : Y < 256 := by omega
  have hp : 256 ^ k ≤ 256 ^ 3 := Nat.pow_le_pow_right (by decide) (by omega)
  have hm : Y * 256 ^ k ≤ 255 * 256 ^ 3 := Nat.mul_le_mul (by omega) hp
  have hm' : Y * 256 ^ k ≤ 4278190080 := by simpa using hm
  have ha' : acc < 16777216 := Nat.lt_of_lt_of_le ha (by simpa using hp)
  have hc : ((Y : Int) * 2 ^ (8 * (k : Int)).toNat) = ((Y * 256 ^ k : Nat) : Int) := by
    rw [p256, show (8 * (k : Int)).toNat = 8 * k by omega]; push_cast; rfl
  rw [hc, Int.toNat_natCast]
  have hd : (256 ^ k ∣ Y * 256 ^ k) := ⟨Y, Nat.mul_comm _ _⟩
  generalize Y * 256 ^ k = Z at *
  have hw : IntKind.u32.wrap (Z : Int) = Z := by rw [IntKind.wrap_u32]; omega
  rw [hw, (bits_nat .u32 32 (by decide) (fun n h h' => by rw [IntKind.wrap_u32]; omega) acc Z (by omega) (by omega)).2]
  obtain ⟨q, hq⟩ := hd
  have h5 : 2 ^ (8 * k) * q + acc = 2 ^ (8 * k) * q ||| acc := Nat.two_pow_add_eq_or_of_lt (by rw [← p256]; exact ha) q
  rw [hq, p256, Nat.or_comm, ← h5]
  omega

theorem cast256 (acc k y : Nat) : ((acc + y * 256 ^ k : Nat) : Int) = (acc : Int) + (y : Int) * 256 ^ k := by rw [Int.natCast_add, Int.natCast_mul, Int.natCast_pow]; rfl

section
variable {w W w' : World} {g h r : Nat} {f t b e : Int} {v : Value} {l l' : List Int} {es : List Int}
theorem st_rows (hs : St w W g h r f t b v e l) (hr : Kd.R (Kd.int .i64) 3 W w.heap.size (fun _ => True) v es) (hw : Went w W.drew w' r l') : Kd.R (Kd.int .i64) 3 w' w.heap.size (fun _ => True) v es := by
  obtain ⟨h1, ⟨A, c, a1, a2, a3, a5, a6⟩, h3, h4, h5, h6⟩ := st_drew hs
  exact Kd.R_mono (Kd.R_keep (Kd.R_types (Kd.R_drew hr) a1 (by decide)) hw.2 (fun _ hk => hk.2)) (fun _ _ => trivial)
theorem st_grown (hs : St w W g h r f t b v e l) (hr : Kd.R (Kd.int .i64) 3 W w.heap.size (fun _ => True) v es) (hg : W.grownBy w' v.ownBlock) (hb : Below w.heap.size w w') : St w w' g h r f t b v e l := by
  obtain ⟨h1, ⟨A, c, a1, a2, a3, a5, a6⟩, h3, h4, h5, h6⟩ := hs
  exact ⟨⟨blk_grown h1.1 hg (Kd.R_ne hr h1.1 (by decide)), blk_grown h1.2.1 hg (Kd.R_ne hr h1.2.1 (by decide)), h1.2.2⟩, ⟨A, c, blk_grown a1 hg (Kd.R_ne hr a1 (by decide)), a2, a3, hb, a6⟩, h3, h4, h5, h6⟩
theorem st_rput {i : Nat} {x : Value} (hs : St w W g h r f t b v e l) {v' : Value} (hr : Kd.R (Kd.int .i64) 3 W w.heap.size (fun _ => True) v' es) : Kd.R (Kd.int .i64) 3 (W.setCell ⟨g, i, none⟩ x) w.heap.size (fun _ => True) v' es :=
  Kd.R_mono (Kd.R_far (p := ⟨g, i, none⟩) (Kd.R_types hr hs.1.1 (by decide)) (fun _ hk => hk.2) x) (fun _ _ => trivial)
theorem st_rpute {i : Nat} {x : Value} (hs : St w W g h r f t b v e l) {v' : Value} (hr : Kd.R (Kd.int .i64) 3 W w.heap.size (fun _ => True) v' es) : Kd.R (Kd.int .i64) 3 (W.setCell ⟨h, i, none⟩ x) w.heap.size (fun _ => True) v' es :=
  Kd.R_mono (Kd.R_far (p := ⟨h, i, none⟩) (Kd.R_types hr hs.1.2.1 (by decide)) (fun _ hk => hk.2) x) (fun _ _ => trivial)
theorem st_pute (hs : St w W g h r f t b v e l) (x : Int) : St w (W.setCell ⟨h, 0, none⟩ (.int .i64 x)) g h r f t b v x l := by
  have hv := vars_e hs.1 x
  obtain ⟨h1, ⟨A, c, a1, a2, a3, a5, a6⟩, h3, h4, h5, h6⟩ := hs
  exact ⟨hv, ⟨A, c, (Below.heap_setCell _ _ _ _ (fun h' => h4 h'.symm)).trans a1, a2, a3, a5.setCell h6 _, a6⟩, h3, h4, h5, h6⟩
/-- the last stores -/
theorem st_done (hs : St w W g h r f t b v e l) (hr : Kd.R (Kd.int .i64) 3 W w.heap.size (fun _ => True) v es) :
    Vars (((((W.setCell ⟨g, 0, none⟩ (.int .i64 f)).setCell ⟨g, 1, none⟩ (.int .i64 t)).setCell ⟨g, 2, none⟩ (.int .u32 b)).setCell ⟨g, 3, none⟩ v).setCell ⟨h, 0, none⟩ (.int .i64 0)) g h f t b v 0 ∧
    Below w.heap.size w (((((W.setCell ⟨g, 0, none⟩ (.int .i64 f)).setCell ⟨g, 1, none⟩ (.int .i64 t)).setCell ⟨g, 2, none⟩ (.int .u32 b)).setCell ⟨g, 3, none⟩ v).setCell ⟨h, 0, none⟩ (.int .i64 0)) ∧
    Kd.R (Kd.int .i64) 3 (((((W.setCell ⟨g, 0, none⟩ (.int .i64 f)).setCell ⟨g, 1, none⟩ (.int .i64 t)).setCell ⟨g, 2, none⟩ (.int .u32 b)).setCell ⟨g, 3, none⟩ v).setCell ⟨h, 0, none⟩ (.int .i64 0)) w.heap.size (fun _ => True) v es := by
  have s0 := st_put0 hs f
  have r0 := st_rput (i := 0) (x := .int .i64 f) hs hr
  have s1 := st_put1 s0 t
  have r1 := st_rput (i := 1) (x := .int .i64 t) s0 r0
  have s2 := st_put2 s1 b
  have r2 := st_rput (i := 2) (x := .int .u32 b) s1 r1
  have s3 := st_put3 s2 v
  have r3 := st_rput (i := 3) (x := v) s2 r2
  have s4 := st_pute s3 0
  have r4 := st_rpute (i := 0) (x := .int .i64 0) s3 r3
  obtain ⟨A, c, a1, a2, a3, a5, a6⟩ := s4.2.1
  exact ⟨s4.1, a5, r4⟩
end

theorem ne183 {x : Int} (h : ¬ x = 183) : (x != 183) = true := by simpa using h
theorem eq183 {x : Int} (h : x = 183) : (x != 183) = false := by simpa using h

theorem dec_calls (A : Option Addr) (c : Nat) (l : List Int) (w : World) (hr : Kd.C (Kd.int .u8) w A l.length l) (hc : l.length ≤ c) (hb : ∀ x ∈ l, 0 ≤ x ∧ x < 256) :
    Calls Try.prog 12 #[.slice A l.length c] w (DecQ w l) := by
  have hmf : ∀ (fn : Fn) (first cap : Array Value) (w : World), (Instr.makeFunc fn first cap).run Try.prog w = .ok (.func fn first cap) w := fun _ _ _ _ => rfl
  have HS := Aside0.mk (st_start w A c l hr hc)
  have HB := Aside0.mk hb
  clear hr hb
  go_enter_defers Try.func12, Try.ntmps12
  go_wp2_with (go_at_call 19; fail)
  revert HS
  generalize (((w.alloc (.cells #[.int .i64 0, .int .i64 0, .int .u32 0, .slice none 0 0] 25)).alloc (.cells #[.int .i64 0] 28)).alloc (.cells #[.slice A l.length c] 48)) = W
  generalize w.heap.size + 1 + 1 = r
  generalize w.heap.size + 1 = h
  generalize w.heap.size = g
  intro HS
  by_cases hl : l = []
  · have HD : Aside0 (decV l = none) := ⟨by rw [hl]; rfl⟩
    have HS2 : Aside0 (St w W g h r 0 0 0 (.slice none 0 0) 0 []) := ⟨by rw [← hl]; exact HS.out⟩
    clear hl HS
    refine (byte_none HS2.out.2.1).mono ?_
    rintro e w1 ⟨rfl, hw⟩
    have HW := Aside0.mk (st_went HS2.out hw)
    clear hw
    go_wp2
    exact st_panic rfl rfl HW.out HD.out
  obtain ⟨x, l1, hl'⟩ : ∃ x l1, l = x :: l1 := by cases l with
    | nil => exact absurd rfl hl
    | cons x l1 => exact ⟨x, l1, rfl⟩
  have HD : Aside0 (decV l = if x = 183 then dec1 l1 else none) := ⟨by rw [hl']; rfl⟩
  have HS2 : Aside0 (St w W g h r 0 0 0 (.slice none 0 0) 0 (x :: l1)) := ⟨by rw [← hl']; exact HS.out⟩
  have HB1 : Aside0 (∀ x ∈ l1, 0 ≤ x ∧ x < 256) := ⟨fun y hy => HB.out y (by rw [hl']; simp [hy])⟩
  clear hl hl' HS HB
  refine (byte_some HS2.out.2.1).mono ?_
  rintro e w1 ⟨rfl, hw⟩
  have HW := Aside0.mk (st_went HS2.out hw)
  clear hw HS2 W
  have hv := HW.out.1
  obtain ⟨hg, hh, hne⟩ := hv
  by_cases hx : x = 183
  · have HD2 : Aside0 (decV l = dec1 l1) := ⟨by rw [HD.out, if_pos hx]⟩
    have hx' := eq183 hx
    clear HD hx hg hh hne
    go_wp2_with (go_at_call 20; fail)
    cases hn : numV l1 with
    | none =>
      have HD : Aside0 (decV l = none) := ⟨by rw [HD2.out, dec1, hn]⟩
      refine (number_none HW.out.2.1 HB1.out hn).mono ?_
      rintro e w2 ⟨rfl, hw⟩
      have HW2 := Aside0.mk (st_went HW.out hw)
      clear hw hn HW HB1 HD2
      go_wp2
      exact st_panic rfl rfl HW2.out HD.out
    | some fk =>
    obtain ⟨f, k⟩ := fk
    have HD : Aside0 (decV l = dec2 f (l1.drop k)) := ⟨by rw [HD2.out, dec1, hn]⟩
    refine (number_some HW.out.2.1 HB1.out hn).mono ?_
    rintro e w2 ⟨rfl, hw⟩
    have HW2 := Aside0.mk (st_went HW.out hw)
    have HB2 : Aside0 (∀ x ∈ l1.drop k, 0 ≤ x ∧ x < 256) := ⟨fun y hy => HB1.out y (List.mem_of_mem_drop hy)⟩
    clear hw hn HW HB1 HD2
    generalize l1.drop k = l2 at *
    clear l1 w1
    go_wp2_with (go_at_call 20; fail)
    cases hn : numV l2 with
    | none =>
      have HD3 : Aside0 (decV l = none) := ⟨by rw [HD.out, dec2, hn]⟩
      refine (number_none HW2.out.2.1 HB2.out hn).mono ?_
      rintro e w3 ⟨rfl, hw⟩
      have HW3 := Aside0.mk (st_went HW2.out hw)
      clear hw hn HW2 HB2 HD
      go_wp2
      exact st_panic rfl rfl HW3.out HD3.out
    | some fk =>
    obtain ⟨t, k'⟩ := fk
    have HD3 : Aside0 (decV l = dec2b f t (bitsG 4 0 0 (l2.drop k'))) := ⟨by rw [HD.out, dec2, hn]⟩
    refine (number_some HW2.out.2.1 HB2.out hn).mono ?_
    rintro e w3 ⟨rfl, hw⟩
    have HW3 := Aside0.mk (st_went HW2.out hw)
    have HB3 : Aside0 (∀ x ∈ l2.drop k', 0 ≤ x ∧ x < 256) := ⟨fun y hy => HB2.out y (List.mem_of_mem_drop hy)⟩
    clear hw hn HW2 HB2 HD
    generalize l2.drop k' = l3 at *
    clear l2 w2
    obtain ⟨hg, hh, hne⟩ := HW3.out.1
    have c0 : w3.cell? ⟨g, 0, none⟩ = some (.int .i64 0) := (blk_cell hg 0).trans rfl
    have c1 : w3.cell? ⟨g, 1, none⟩ = some (.int .i64 0) := (blk_cell hg 1).trans rfl
    have f0 := blk_frozen hg 0
    have f1 := blk_frozen hg 1
    have HW4 := Aside0.mk (st_put1 (st_put0 HW3.out f) t)
    clear hg hh hne HW3
    go_wp2
    generalize (w3.setCell { block := g, off := 0 } (Value.int IntKind.i64 f)).setCell { block := g, off := 1 } (Value.int IntKind.i64 t) = w4 at *
    clear c0 c1 f0 f1 hx' hmf
    go_loopw [21] (fun iv wr => ∃ (k acc : Nat) (rest : List Int), k ≤ 4 ∧ iv = .int .i64 k ∧ Aside0 (St w wr g h r f t acc (.slice none 0 0) 0 rest) ∧ Aside0 (acc < 256 ^ k) ∧ Aside0 (bitsG 4 0 0 l3 = bitsG (4 - k) k acc rest) ∧ Aside0 (∀ x ∈ rest, 0 ≤ x ∧ x < 256)) (fun iv _ => 4 - (intOf iv).toNat)
    case atStart => exact ⟨0, 0, l3, by omega, rfl, HW4, ⟨by decide⟩, ⟨rfl⟩, HB3⟩
    case round =>
      obtain ⟨k, acc, rest, hk, rfl, H1, H2, H3, H4⟩ := hrel
      obtain ⟨hg, hh, hne⟩ := H1.out.1
      have c2 : wr.cell? ⟨g, 2, none⟩ = some (.int .u32 acc) := (blk_cell hg 2).trans rfl
      have f2 := blk_frozen hg 2
      clear hg hh hne
      by_cases hk4 : k < 4
      · cases rest with
        | nil =>
          have HD : Aside0 (decV l = none) := ⟨by rw [HD3.out, H3.out, show 4 - k = (3 - k) + 1 by omega]; rfl⟩
          clear c2 f2
          have c2 : wr.drew.cell? ⟨g, 2, none⟩ = some (.int .u32 acc) := (blk_cell (st_drew H1.out).1.1 2).trans rfl
          go_wp2
          refine Code.wp_mono (panP_imp (g := g) (h := h) HD.out (fun _ _ h => h)) ?_
          refine start_ (n := 11) (S := fun w' => w'.cell? ⟨g, 2, none⟩ = some (.int .u32 acc)) (ds := []) #[false, false, false, false, false, false, false, false, false, false, false] (by kernel_rfl) rfl rfl c2 (fun hHeld => ?_)
          refine pure_ (i := 0) (N := some 24) (v := ?_) (a' := ?_) #[true, false, false, false, false, false, false, false, false, false, false] rfl rfl (by kernel_rfl) (panP_put (by decide) (by decide)) (Or.inl ⟨by rfl, ?_⟩) ?_ ?_
          rotate_left
          · intro w'
            go_simp
            with_reducible rfl
          rotate_left
          · simp only [Act.put, List.setIfInBounds_toArray, List.set_cons_zero, List.set_cons_succ]
            rfl
          refine pure_ (i := 2) (N := some 26) (v := ?_) (a' := ?_) #[true, false, true, false, false, false, false, false, false, false, false] rfl rfl (by kernel_rfl) (panP_put (by decide) (by decide)) (Or.inl ⟨by rfl, ?_⟩) ?_ ?_
          rotate_left
          · intro w'
            go_simp
            with_reducible rfl
          rotate_left
          · simp only [Act.put, List.setIfInBounds_toArray, List.set_cons_zero, List.set_cons_succ]
            rfl
          refine pure_ (i := 5) (N := some 29) (v := ?_) (a' := ?_) #[true, false, true, false, false, true, false, false, false, false, false] rfl rfl (by kernel_rfl) (panP_put (by decide) (by decide)) (Or.inl ⟨by rfl, ?_⟩) ?_ ?_
          rotate_left
          · intro w'
            go_simp
            with_reducible rfl
          rotate_left
          · simp only [Act.put, List.setIfInBounds_toArray, List.set_cons_zero, List.set_cons_succ]
            rfl
          refine pure_ (i := 6) (N := some 30) (v := ?_) (a' := ?_) #[true, false, true, false, false, true, true, false, false, false, false] rfl rfl (by kernel_rfl) (panP_put (by decide) (by decide)) (Or.inl ⟨by rfl, ?_⟩) ?_ ?_
          rotate_left
          · intro w'
            go_simp
            with_reducible rfl
          rotate_left
          · simp only [Act.put, List.setIfInBounds_toArray, List.set_cons_zero, List.set_cons_succ]
            rfl
          refine take_ (i := 1) (N := some 25) (v := ?_) (a' := ?_) #[true, true, true, false, false, true, true, false, false, false, false] rfl rfl (by kernel_rfl) (panP_put (by decide) (by decide)) (Or.inl ⟨by rfl, ?_⟩) hHeld ?_ ?_
          rotate_left
          · intro w' hS
            go_simp
            with_reducible rfl
          rotate_left
          · simp only [Act.put, List.setIfInBounds_toArray, List.set_cons_zero, List.set_cons_succ]
            rfl
          refine one_ (i := 3) (N := some 27) #[true, true, true, true, false, true, true, false, false, false, false] rfl rfl (by kernel_rfl) (by decide) (fun K hK => ?_)
          refine falls_ Try.func19 (by kernel_rfl) rfl #[.pointer (some ⟨r, 0, none⟩)] (by rfl) rfl (by (try simp only [List.map_toArray, List.map_cons, List.map_nil]); first | done | rfl) ?_
          refine (byte_none (st_drew H1.out).2.1).mono ?_
          rintro e w5 ⟨rfl, hw⟩
          exact ⟨_, rfl, rfl, rfl, rfl, rfl, _, _, _, _, _, _, _, st_went (st_drew H1.out) hw⟩
        | cons y rest' =>
          clear c2 f2
          have c2 : wr.drew.cell? ⟨g, 2, none⟩ = some (.int .u32 acc) := (blk_cell (st_drew H1.out).1.1 2).trans rfl
          go_wp2
          have hy := H4.out y (by simp)
          have hw8 : IntKind.i64.wrap (8 * (k : Int)) = 8 * k := by rw [IntKind.wrap_i64]; omega
          have hwy : IntKind.u32.wrap y = y := by rw [IntKind.wrap_u32]; omega
          have h80 : (0 : Int) ≤ 8 * k := by omega
          refine wp_region_noPanic ?_
          refine start_ (n := 11) (S := fun w' => w'.cell? ⟨g, 2, none⟩ = some (.int .u32 acc)) (ds := [10]) #[false, false, false, false, false, false, false, false, false, false, false] (by kernel_rfl) rfl rfl c2 (fun hHeld => ?_)
          refine pure_ (i := 0) (N := some 24) (v := ?_) (a' := ?_) #[true, false, false, false, false, false, false, false, false, false, false] rfl rfl (by kernel_rfl) (fun _ _ _ h => h) (Or.inl ⟨by rfl, ?_⟩) ?_ ?_
          rotate_left
          · intro w'
            go_simp
            with_reducible rfl
          rotate_left
          · simp only [Act.put, List.setIfInBounds_toArray, List.set_cons_zero, List.set_cons_succ]
            rfl
          refine pure_ (i := 2) (N := some 26) (v := ?_) (a' := ?_) #[true, false, true, false, false, false, false, false, false, false, false] rfl rfl (by kernel_rfl) (fun _ _ _ h => h) (Or.inl ⟨by rfl, ?_⟩) ?_ ?_
          rotate_left
          · intro w'
            go_simp
            with_reducible rfl
          rotate_left
          · simp only [Act.put, List.setIfInBounds_toArray, List.set_cons_zero, List.set_cons_succ]
            rfl
          refine pure_ (i := 5) (N := some 29) (v := ?_) (a' := ?_) #[true, false, true, false, false, true, false, false, false, false, false] rfl rfl (by kernel_rfl) (fun _ _ _ h => h) (Or.inl ⟨by rfl, ?_⟩) ?_ ?_
          rotate_left
          · intro w'
            go_simp
            with_reducible rfl
          rotate_left
          · simp only [Act.put, List.setIfInBounds_toArray, List.set_cons_zero, List.set_cons_succ]
            rfl
          refine pure_ (i := 6) (N := some 30) (v := ?_) (a' := ?_) #[true, false, true, false, false, true, true, false, false, false, false] rfl rfl (by kernel_rfl) (fun _ _ _ h => h) (Or.inl ⟨by rfl, ?_⟩) ?_ ?_
          rotate_left
          · intro w'
            go_simp
            with_reducible rfl
          rotate_left
          · simp only [Act.put, List.setIfInBounds_toArray, List.set_cons_zero, List.set_cons_succ]
            rfl
          refine take_ (i := 1) (N := some 25) (v := ?_) (a' := ?_) #[true, true, true, false, false, true, true, false, false, false, false] rfl rfl (by kernel_rfl) (fun _ _ _ h => h) (Or.inl ⟨by rfl, ?_⟩) hHeld ?_ ?_
          rotate_left
          · intro w' hS
            go_simp
            with_reducible rfl
          rotate_left
          · simp only [Act.put, List.setIfInBounds_toArray, List.set_cons_zero, List.set_cons_succ]
            rfl
          refine one_ (i := 3) (N := some 27) #[true, true, true, true, false, true, true, false, false, false, false] rfl rfl (by kernel_rfl) (by decide) (fun K hK => ?_)
          refine goes_ Try.func19 (by kernel_rfl) rfl #[.pointer (some ⟨r, 0, none⟩)] (by rfl) rfl rfl (by (try simp only [List.map_toArray, List.map_cons, List.map_nil]); first | done | rfl) ?_
          refine (byte_some (st_drew H1.out).2.1).mono ?_
          rintro e w5 ⟨rfl, hw⟩
          refine ⟨_, rfl, ?_⟩
          have HW5 := Aside0.mk (st_went (st_drew H1.out) hw)
          clear hw
          have c5 : w5.cell? ⟨g, 2, none⟩ = some (.int .u32 acc) := (blk_cell HW5.out.1.1 2).trans rfl
          have f5 := blk_frozen HW5.out.1.1 2
          refine hK.out _ _ c5 (fun hHeld => ?_)
          clear hK K
          refine norm_ (a' := ?_) ?_ ?_
          rotate_left
          · show Act.put _ (some 27) _ = _
            simp only [Act.put, List.setIfInBounds_toArray, List.set_cons_zero, List.set_cons_succ]
            rfl
          refine pure_ (i := 4) (N := some 28) (v := ?_) (a' := ?_) #[true, true, true, true, true, true, true, false, false, false, false] rfl rfl (by kernel_rfl) (fun _ _ _ h => h) (Or.inl ⟨by rfl, ?_⟩) ?_ ?_
          rotate_left
          · intro w'
            go_simp
            with_reducible rfl
          rotate_left
          · simp only [Act.put, List.setIfInBounds_toArray, List.set_cons_zero, List.set_cons_succ]
            rfl
          refine pure_ (i := 7) (N := some 31) (v := ?_) (a' := ?_) #[true, true, true, true, true, true, true, true, false, false, false] rfl rfl (by kernel_rfl) (fun _ _ _ h => h) (Or.inl ⟨by rfl, ?_⟩) ?_ ?_
          rotate_left
          · intro w'
            go_simp
            with_reducible rfl
          rotate_left
          · simp only [Act.put, List.setIfInBounds_toArray, List.set_cons_zero, List.set_cons_succ]
            rfl
          refine pure_ (i := 8) (N := some 32) (v := ?_) (a' := ?_) #[true, true, true, true, true, true, true, true, true, false, false] rfl rfl (by kernel_rfl) (fun _ _ _ h => h) (Or.inl ⟨by rfl, ?_⟩) ?_ ?_
          rotate_left
          · intro w'
            go_simp
            with_reducible rfl
          rotate_left
          · simp only [Act.put, List.setIfInBounds_toArray, List.set_cons_zero, List.set_cons_succ]
            rfl
          refine pure_ (i := 9) (N := some 33) (v := ?_) (a' := ?_) #[true, true, true, true, true, true, true, true, true, true, false] rfl rfl (by kernel_rfl) (fun _ _ _ h => h) (Or.inl ⟨by rfl, ?_⟩) ?_ ?_
          rotate_left
          · intro w'
            go_simp
            with_reducible rfl
          rotate_left
          · simp only [Act.put, List.setIfInBounds_toArray, List.set_cons_zero, List.set_cons_succ]
            rfl
          refine last_ (i := 10) (N := none) #[true, true, true, true, true, true, true, true, true, true, true] rfl rfl (by kernel_rfl) (by decide) (fun K hK => ?_)
          refine skip_ (w1 := ?_) (by rfl) rfl ?_ ?_
          rotate_left
          · go_simp
            rfl
          refine hK.out _ _ ?_
          clear hK K
          refine done_ (by kernel_rfl) ?_
          refine NoPanic.normal ?_
          rw [or32 k acc y hk4 H2.out hy.1 hy.2]
          have HW6 := Aside0.mk (st_put2 HW5.out ((acc + y.toNat * 256 ^ k : Nat) : Int))
          have HA2 : Aside0 (acc + y.toNat * 256 ^ k < 256 ^ (k + 1)) := ⟨by
            have h1 := H2.out
            have h2 : y.toNat * 256 ^ k ≤ 255 * 256 ^ k := Nat.mul_le_mul_right _ (by omega)
            rw [Nat.pow_succ]; omega⟩
          have HA3 : Aside0 (bitsG 4 0 0 l3 = bitsG (4 - (k + 1)) (k + 1) ((acc + y.toNat * 256 ^ k : Nat) : Int) rest') := ⟨by
            have h : (y.toNat : Int) = y := by omega
            rw [H3.out, show 4 - k = (4 - (k + 1)) + 1 by omega]
            simp only [bitsG]
            rw [cast256 acc k y.toNat, h]⟩
          have HA4 : Aside0 (∀ x ∈ rest', 0 ≤ x ∧ x < 256) := ⟨fun z hz => H4.out z (by simp [hz])⟩
          generalize acc + y.toNat * 256 ^ k = acc' at HW6 HA2 HA3 ⊢
          generalize w5.setCell { block := g, off := 2 } (Value.int IntKind.u32 (acc' : Int)) = w6 at *
          clear c5 f5 hHeld HW5 w5 H1 H2 H3 H4 c2
          try rw [hw8]
          try rw [hwy]
          generalize IntKind.u32.wrap (y * 2 ^ (8 * (k : Int)).toNat) = z31
          clear hw8 hwy h80 hy
          go_wp2
          refine ⟨⟨k + 1, acc', rest', by omega, by go_num, HW6, HA2, HA3, HA4⟩, ?_⟩
          simp [intOf]; omega
      · have h4 : k = 4 := by omega
        have HD4 : Aside0 (decV l = dec3 f t acc rest) := ⟨by rw [HD3.out, H3.out, h4]; rfl⟩
        clear HD3 HB3 HW4 H2 H3 c2 f2
        go_wp2_with (go_at_call 20; fail)
        cases hn : numV rest with
        | none =>
          have HD5 : Aside0 (decV l = none) := ⟨by rw [HD4.out, dec3, hn]⟩
          refine (number_none H1.out.2.1 H4.out hn).mono ?_
          rintro e w5 ⟨rfl, hw⟩
          have HW5 := Aside0.mk (st_went H1.out hw)
          clear hw hn
          go_wp2
          exact st_panic rfl rfl HW5.out HD5.out
        | some fk =>
        obtain ⟨n, kn⟩ := fk
        refine (number_some H1.out.2.1 H4.out hn).mono ?_
        rintro e w5 ⟨rfl, hw⟩
        have HW5 := Aside0.mk (st_went H1.out hw)
        have HD5 : Aside0 (decV l = if n > 1024 then none else dec3b f t acc (numsG n.toNat [] (rest.drop kn))) := ⟨by rw [HD4.out, dec3, hn]⟩
        have HB5 : Aside0 (∀ x ∈ rest.drop kn, 0 ≤ x ∧ x < 256) := ⟨fun y hy => H4.out y (List.mem_of_mem_drop hy)⟩
        clear hw hn H1 H4 HD4
        generalize rest.drop kn = l5 at *
        clear rest wr
        by_cases hn1 : n > 1024
        · have HD6 : Aside0 (decV l = none) := ⟨by rw [HD5.out, if_pos hn1]⟩
          obtain ⟨hg, hh, hne⟩ := HW5.out.1
          have c0 : w5.cell? ⟨g, 0, none⟩ = some (.int .i64 f) := (blk_cell hg 0).trans rfl
          have c1 : w5.cell? ⟨g, 1, none⟩ = some (.int .i64 t) := (blk_cell hg 1).trans rfl
          have c2 : w5.cell? ⟨g, 2, none⟩ = some (.int .u32 acc) := (blk_cell hg 2).trans rfl
          have c3 : w5.cell? ⟨g, 3, none⟩ = some (.slice none 0 0) := (blk_cell hg 3).trans rfl
          have c4 : w5.cell? ⟨h, 0, none⟩ = some (.int .i64 0) := (blk_cell hh 0).trans rfl
          have f0 := blk_frozen hg 0
          have f1 := blk_frozen hg 1
          have f2 := blk_frozen hg 2
          have f3 := blk_frozen hg 3
          have f4 := blk_frozen hh 0
          have hne' : ¬ h = g := fun h' => hne h'.symm
          clear HD5 hg hh hne
          go_wp2
          exact st_bad rfl rfl HW5.out HD6.out
        have HD6 : Aside0 (decV l = dec3b f t acc (numsG n.toNat [] l5)) := ⟨by rw [HD5.out, if_neg hn1]⟩
        clear HD5
        go_wp2
        go_loopw [41] (fun iv wr => ∃ (k : Nat) (v : Value) (es rest : List Int), k ≤ n.toNat ∧ iv = .int .i64 k ∧ Aside0 (St w wr g h r f t acc v 0 rest) ∧ Aside0 (Kd.R (Kd.int .i64) 3 wr w.heap.size (fun _ => True) v es) ∧ Aside0 (es.length = k) ∧ Aside0 (numsG n.toNat [] l5 = numsG (n.toNat - k) es rest) ∧ Aside0 (∀ x ∈ rest, 0 ≤ x ∧ x < 256)) (fun iv _ => n.toNat - (intOf iv).toNat)
        case atStart => exact ⟨0, .slice none 0 0, [], l5, by omega, rfl, HW5, ⟨Kd.R_nil _ _ _ _ _⟩, ⟨rfl⟩, ⟨rfl⟩, HB5⟩
        case round =>
          obtain ⟨k, v, es, rest, hk, rfl, H1, H2, H3, H4, H5⟩ := hrel
          obtain ⟨Ae, ce, rfl⟩ := Kd.R_slice H2.out
          by_cases hkn : k < n.toNat
          · have hkn' : (k : Int) < n := by omega
            have c3 : wr.drew.cell? ⟨g, 3, none⟩ = some (.slice Ae es.length ce) := (blk_cell (st_drew H1.out).1.1 3).trans rfl
            cases hn : numV rest with
            | none =>
              have HD : Aside0 (decV l = none) := ⟨by rw [HD6.out, H4.out, show n.toNat - k = (n.toNat - (k + 1)) + 1 by omega, numsG, hn]; rfl⟩
              have HN := Aside0.mk (number_none (st_drew H1.out).2.1 H5.out hn)
              clear hn
              go_wp2
              refine Code.wp_mono (panP_imp (g := g) (h := h) HD.out (fun _ _ h => h)) ?_
              refine start_ (n := 8) (S := fun w' => w'.cell? ⟨g, 3, none⟩ = some (.slice Ae es.length ce)) (ds := [7]) #[false, false, false, false, false, false, false, false] (by kernel_rfl) rfl rfl c3 (fun hHeld => ?_)
              refine pure_ (i := 0) (N := some 43) (v := ?_) (a' := ?_) #[true, false, false, false, false, false, false, false] rfl rfl (by kernel_rfl) (panP_put (by decide) (by decide)) (Or.inl ⟨by rfl, ?_⟩) ?_ ?_
              rotate_left
              · intro w'
                go_simp
                with_reducible rfl
              rotate_left
              · simp only [Act.put, List.setIfInBounds_toArray, List.set_cons_zero, List.set_cons_succ]
                rfl
              refine pure_ (i := 2) (N := some 45) (v := ?_) (a' := ?_) #[true, false, true, false, false, false, false, false] rfl rfl (by kernel_rfl) (panP_put (by decide) (by decide)) (Or.inl ⟨by rfl, ?_⟩) ?_ ?_
              rotate_left
              · intro w'
                go_simp
                with_reducible rfl
              rotate_left
              · simp only [Act.put, List.setIfInBounds_toArray, List.set_cons_zero, List.set_cons_succ]
                rfl
              refine take_ (i := 1) (N := some 44) (v := ?_) (a' := ?_) #[true, true, true, false, false, false, false, false] rfl rfl (by kernel_rfl) (panP_put (by decide) (by decide)) (Or.inl ⟨by rfl, ?_⟩) hHeld ?_ ?_
              rotate_left
              · intro w' hS
                go_simp
                with_reducible rfl
              rotate_left
              · simp only [Act.put, List.setIfInBounds_toArray, List.set_cons_zero, List.set_cons_succ]
                rfl
              refine one_ (i := 3) (N := some 46) #[true, true, true, true, false, false, false, false] rfl rfl (by kernel_rfl) (by decide) (fun K hK => ?_)
              refine falls_ Try.func20 (by kernel_rfl) rfl #[.pointer (some ⟨r, 0, none⟩)] (by rfl) rfl (by (try simp only [List.map_toArray, List.map_cons, List.map_nil]); first | done | rfl) ?_
              refine HN.out.mono ?_
              rintro e w5 ⟨rfl, hw⟩
              exact ⟨_, rfl, rfl, rfl, rfl, rfl, _, _, _, _, _, _, _, st_went (st_drew H1.out) hw⟩
            | some fk =>
              obtain ⟨m, km⟩ := fk
              have HN := Aside0.mk (number_some (st_drew H1.out).2.1 H5.out hn)
              have HH4 : Aside0 (numsG n.toNat [] l5 = numsG (n.toNat - (k + 1)) (es ++ [m]) (rest.drop km)) := ⟨by rw [H4.out, show n.toNat - k = (n.toNat - (k + 1)) + 1 by omega, numsG, hn]⟩
              have HH5 : Aside0 (∀ x ∈ rest.drop km, 0 ≤ x ∧ x < 256) := ⟨fun y hy => H5.out y (List.mem_of_mem_drop hy)⟩
              clear hn
              go_wp2
              refine wp_region_noPanic ?_
              refine start_ (n := 8) (S := fun w' => w'.cell? ⟨g, 3, none⟩ = some (.slice Ae es.length ce)) (ds := [7]) #[false, false, false, false, false, false, false, false] (by kernel_rfl) rfl rfl c3 (fun hHeld => ?_)
              refine pure_ (i := 0) (N := some 43) (v := ?_) (a' := ?_) #[true, false, false, false, false, false, false, false] rfl rfl (by kernel_rfl) (fun _ _ _ h => h) (Or.inl ⟨by rfl, ?_⟩) ?_ ?_
              rotate_left
              · intro w'
                go_simp
                with_reducible rfl
              rotate_left
              · simp only [Act.put, List.setIfInBounds_toArray, List.set_cons_zero, List.set_cons_succ]
                rfl
              refine pure_ (i := 2) (N := some 45) (v := ?_) (a' := ?_) #[true, false, true, false, false, false, false, false] rfl rfl (by kernel_rfl) (fun _ _ _ h => h) (Or.inl ⟨by rfl, ?_⟩) ?_ ?_
              rotate_left
              · intro w'
                go_simp
                with_reducible rfl
              rotate_left
              · simp only [Act.put, List.setIfInBounds_toArray, List.set_cons_zero, List.set_cons_succ]
                rfl
              refine take_ (i := 1) (N := some 44) (v := ?_) (a' := ?_) #[true, true, true, false, false, false, false, false] rfl rfl (by kernel_rfl) (fun _ _ _ h => h) (Or.inl ⟨by rfl, ?_⟩) hHeld ?_ ?_
              rotate_left
              · intro w' hS
                go_simp
                with_reducible rfl
              rotate_left
              · simp only [Act.put, List.setIfInBounds_toArray, List.set_cons_zero, List.set_cons_succ]
                rfl
              refine one_ (i := 3) (N := some 46) #[true, true, true, true, false, false, false, false] rfl rfl (by kernel_rfl) (by decide) (fun K hK => ?_)
              refine goes_ Try.func20 (by kernel_rfl) rfl #[.pointer (some ⟨r, 0, none⟩)] (by rfl) rfl rfl (by (try simp only [List.map_toArray, List.map_cons, List.map_nil]); first | done | rfl) ?_
              refine HN.out.mono ?_
              rintro e w5 ⟨rfl, hw⟩
              refine ⟨_, rfl, ?_⟩
              have HW5 := Aside0.mk (st_went (st_drew H1.out) hw)
              have HR5 : Aside0 (Kd.R (Kd.int .i64) 3 w5 w.heap.size (fun _ => True) (.slice Ae es.length ce) es) := ⟨st_rows H1.out H2.out hw⟩
              clear hw HN
              refine hK.out _ _ ((blk_cell HW5.out.1.1 3).trans rfl) (fun hHeld => ?_)
              clear hK K
              refine norm_ (a' := ?_) ?_ ?_
              rotate_left
              · show Act.put _ (some 46) _ = _
                simp only [Act.put, List.setIfInBounds_toArray, List.set_cons_zero, List.set_cons_succ]
                rfl
              refine one_ (i := 4) (N := some 47) #[true, true, true, true, true, false, false, false] rfl rfl (by kernel_rfl) (by decide) (fun K hK => ?_)
              refine value_ (w1 := ?_) (v := ?_) (by rfl) rfl ?_ ?_
              rotate_left 2
              · go_simp
                constructor
                · rfl
                · rfl
              have hbd := HW5.out.2.1.choose_spec.choose_spec.2.2.2.1
              refine hK.out _ _ ((blk_cell (blk_alloc HW5.out.1.1 _) 3).trans rfl) (fun hHeld => ?_)
              clear hK K
              refine norm_ (a' := ?_) ?_ ?_
              rotate_left
              · show Act.put _ (some 47) _ = _
                simp only [Act.put, List.setIfInBounds_toArray, List.set_cons_zero, List.set_cons_succ]
                rfl
              refine one_ (i := 5) (N := some 48) #[true, true, true, true, true, true, false, false] rfl rfl (by kernel_rfl) (by decide) (fun K hK => ?_)
              refine Kd.R_append_step (Kd.int .i64) (w0 := w) w.heap.size (by rfl) (.tmp 44) (.tmp 47) 23 3 (.int .i64 0) 8 rfl Try.underlying23 info3 rfl (by decide) (by omega) (.slice Ae es.length ce) es m [.int .i64 m] (fun _ => True) (fun _ => False) rfl rfl rfl (fun _ hk => hk.elim) (fun _ _ => trivial) HR5.out hbd hbd.size (by have := H3.out; omega) ?_
              intro v1 w6 ho hb hg hat
              obtain ⟨A1, cc1, rfl⟩ := Kd.R_slice ho
              rw [show (es ++ [m]).length = es.length + 1 by simp] at ho
              have HW6 := Aside0.mk (st_grown HW5.out HR5.out hg hb)
              have HR6 := Aside0.mk ho
              clear ho hb hg hat hbd
              have c6 : w6.cell? ⟨g, 3, none⟩ = some (.slice Ae es.length ce) := (blk_cell HW6.out.1.1 3).trans rfl
              have f6 := blk_frozen HW6.out.1.1 3
              refine hK.out _ _ c6 (fun hHeld => ?_)
              clear hK K
              refine norm_ (a' := ?_) ?_ ?_
              rotate_left
              · show Act.put _ (some 48) _ = _
                simp only [Act.put, List.setIfInBounds_toArray, List.set_cons_zero, List.set_cons_succ]
                rfl
              refine pure_ (i := 6) (N := some 49) (v := ?_) (a' := ?_) #[true, true, true, true, true, true, true, false] rfl rfl (by kernel_rfl) (fun _ _ _ h => h) (Or.inl ⟨by rfl, ?_⟩) ?_ ?_
              rotate_left
              · intro w'
                go_simp
                with_reducible rfl
              rotate_left
              · simp only [Act.put, List.setIfInBounds_toArray, List.set_cons_zero, List.set_cons_succ]
                rfl
              refine last_ (i := 7) (N := none) #[true, true, true, true, true, true, true, true] rfl rfl (by kernel_rfl) (by decide) (fun K hK => ?_)
              refine skip_ (w1 := ?_) (by rfl) rfl ?_ ?_
              rotate_left
              · go_simp
                rfl
              refine hK.out _ _ ?_
              clear hK K
              refine done_ (by kernel_rfl) ?_
              refine NoPanic.normal ?_
              have HR7 := Aside0.mk (st_rput (i := 3) (x := .slice A1 (es.length + 1) cc1) HW6.out HR6.out)
              have HW7 := Aside0.mk (st_put3 HW6.out (.slice A1 (es.length + 1) cc1))
              have HL7 : Aside0 ((es ++ [m]).length = k + 1) := ⟨by have := H3.out; simp; omega⟩
              generalize w6.setCell { block := g, off := 3 } (.slice A1 (es.length + 1) cc1) = w7 at *
              clear c6 f6 HW5 HR5 HW6 HR6 H1 H2 H3 H4 H5 c3
              go_wp2
              refine ⟨⟨k + 1, .slice A1 (es.length + 1) cc1, es ++ [m], rest.drop km, by omega, by go_num, HW7, HR7, HL7, HH4, HH5⟩, ?_⟩
              simp [intOf]; omega
          · have hk' : k = n.toNat := by omega
            have hkn' : ¬ (k : Int) < n := by omega
            have HD7 : Aside0 (decV l = dec4 f t acc es rest) := ⟨by rw [HD6.out, H4.out, hk', Nat.sub_self]; rfl⟩
            clear HD6 H4 H5 HW5 HB5 w5
            obtain ⟨Ar, cr, hrb, _, _, _, _⟩ := H1.out.2.1
            have hre : wr.cell? ⟨r, 0, none⟩ = some (.slice Ar rest.length cr) := (blk_cell hrb 0).trans rfl
            clear hrb
            obtain ⟨hg, hh, hne⟩ := H1.out.1
            have c0 : wr.cell? ⟨g, 0, none⟩ = some (.int .i64 f) := (blk_cell hg 0).trans rfl
            have c1 : wr.cell? ⟨g, 1, none⟩ = some (.int .i64 t) := (blk_cell hg 1).trans rfl
            have c2 : wr.cell? ⟨g, 2, none⟩ = some (.int .u32 acc) := (blk_cell hg 2).trans rfl
            have c3 : wr.cell? ⟨g, 3, none⟩ = some (.slice Ae es.length ce) := (blk_cell hg 3).trans rfl
            have hne' : ¬ h = g := fun h' => hne h'.symm
            by_cases hrest : rest = []
            · subst hrest
              have HC := Aside0.mk (good_calls f t acc Ae ce es wr (Kd.R_reads' H2.out).2.2)
              by_cases hgd : goodV f t es = 0
              · have HD8 : Aside0 (decV l = some (f, t, (acc : Int), es)) := ⟨by rw [HD7.out, dec4, if_pos ⟨rfl, hgd⟩]⟩
                rw [hgd] at HC
                clear hgd HD7 hg hh hne
                go_wp2_with (first | (go_at_call 15; refine HC.out.mono ?_; rintro e w6 ⟨rfl, hb⟩; have HW6 := Aside0.mk (st_went H1.out (went_keep H1.out.2.1 hb)); have HR6 := Aside0.mk (Kd.R_below H2.out hb); have d0 : w6.cell? ⟨g, 0, none⟩ = some (.int .i64 f) := (blk_cell HW6.out.1.1 0).trans rfl; have d1 : w6.cell? ⟨g, 1, none⟩ = some (.int .i64 t) := (blk_cell HW6.out.1.1 1).trans rfl; have d2 : w6.cell? ⟨g, 2, none⟩ = some (.int .u32 acc) := (blk_cell HW6.out.1.1 2).trans rfl; have d3 : w6.cell? ⟨g, 3, none⟩ = some (.slice Ae es.length ce) := (blk_cell HW6.out.1.1 3).trans rfl; have d4 : w6.cell? ⟨h, 0, none⟩ = some (.int .i64 0) := (blk_cell HW6.out.1.2.1 0).trans rfl; have f0 := blk_frozen HW6.out.1.1 0; have f1 := blk_frozen HW6.out.1.1 1; have f2 := blk_frozen HW6.out.1.1 2; have f3 := blk_frozen HW6.out.1.1 3; have f4 := blk_frozen HW6.out.1.2.1 0; clear hb))
                have HF := Aside0.mk (st_done HW6.out HR6.out)
                refine door_ret rfl rfl HF.out.1 ⟨HF.out.2.1, fun f' t' b' es' h' => ?_, fun h' => ?_⟩
                · rw [HD8.out] at h'
                  simp only [Option.some.injEq, Prod.mk.injEq] at h'
                  obtain ⟨rfl, rfl, rfl, rfl⟩ := h'
                  exact ⟨_, rfl, HF.out.2.2⟩
                · rw [HD8.out] at h'
                  cases h'
              · have HD8 : Aside0 (decV l = none) := ⟨by rw [HD7.out, dec4, if_neg (fun h' => hgd h'.2)]⟩
                have hgd' : (goodV f t es != 0) = true := by simpa using hgd
                generalize goodV f t es = gv at *
                clear hgd HD7 hg hh hne
                go_wp2_with (first | (go_at_call 15; refine HC.out.mono ?_; rintro e w6 ⟨rfl, hb⟩; have HW6 := Aside0.mk (st_went H1.out (went_keep H1.out.2.1 hb)); have d0 : w6.cell? ⟨g, 0, none⟩ = some (.int .i64 f) := (blk_cell HW6.out.1.1 0).trans rfl; have d1 : w6.cell? ⟨g, 1, none⟩ = some (.int .i64 t) := (blk_cell HW6.out.1.1 1).trans rfl; have d2 : w6.cell? ⟨g, 2, none⟩ = some (.int .u32 acc) := (blk_cell HW6.out.1.1 2).trans rfl; have d3 : w6.cell? ⟨g, 3, none⟩ = some (.slice Ae es.length ce) := (blk_cell HW6.out.1.1 3).trans rfl; have d4 : w6.cell? ⟨h, 0, none⟩ = some (.int .i64 0) := (blk_cell HW6.out.1.2.1 0).trans rfl; have f0 := blk_frozen HW6.out.1.1 0; have f1 := blk_frozen HW6.out.1.1 1; have f2 := blk_frozen HW6.out.1.1 2; have f3 := blk_frozen HW6.out.1.1 3; have f4 := blk_frozen HW6.out.1.2.1 0; clear hb))
                exact st_bad rfl rfl HW6.out HD8.out
            · have HD8 : Aside0 (decV l = none) := ⟨by rw [HD7.out, dec4, if_neg (fun h' => hrest h'.1)]⟩
              have hpos : 0 < rest.length := List.length_pos_iff.mpr hrest
              have hpos' : (0 : Int) < (rest.length : Int) := by omega
              have c4 : wr.cell? ⟨h, 0, none⟩ = some (.int .i64 0) := (blk_cell hh 0).trans rfl
              have f0 := blk_frozen hg 0
              have f1 := blk_frozen hg 1
              have f2 := blk_frozen hg 2
              have f3 := blk_frozen hg 3
              have f4 := blk_frozen hh 0
              clear HD7 hrest hg hh hne
              go_wp2
              exact st_bad rfl rfl H1.out HD8.out
  · have HD2 : Aside0 (decV l = none) := ⟨by rw [HD.out, if_neg hx]⟩
    have hx' := ne183 hx
    have c0 : w1.cell? ⟨g, 0, none⟩ = some (.int .i64 0) := (blk_cell hg 0).trans rfl
    have c1 : w1.cell? ⟨g, 1, none⟩ = some (.int .i64 0) := (blk_cell hg 1).trans rfl
    have c2 : w1.cell? ⟨g, 2, none⟩ = some (.int .u32 0) := (blk_cell hg 2).trans rfl
    have c3 : w1.cell? ⟨g, 3, none⟩ = some (.slice none 0 0) := (blk_cell hg 3).trans rfl
    have c4 : w1.cell? ⟨h, 0, none⟩ = some (.int .i64 0) := (blk_cell hh 0).trans rfl
    have f0 := blk_frozen hg 0
    have f1 := blk_frozen hg 1
    have f2 := blk_frozen hg 2
    have f3 := blk_frozen hg 3
    have f4 := blk_frozen hh 0
    have hne' : ¬ h = g := fun h' => hne h'.symm
    clear HD hx hg hh hne
    go_wp2
    exact st_bad rfl rfl HW.out HD2.out
end Go.Proofs.Ytfgoangcckiffaa.Dc
