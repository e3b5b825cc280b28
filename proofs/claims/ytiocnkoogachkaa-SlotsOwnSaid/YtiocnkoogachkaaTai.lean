/- This text walks the calls of a table of things of one kind (int). -/
import Derived.Test.YtiocnkoogachkaaTg
import Derived.Deep.DeepCutAuto
import Derived.Deep.RegionHeld3
import Derived.Deep.DeepMust
import Derived.BigRegion
namespace Go.Proofs.Ytiocnkoogachkaa.Ti
open Go.RowKit Go.Proofs.YtiocnkoogachkaaW.PrintWords Go.Proofs.Ytiocnkoogachkaa.Mp Go.Proofs.Ytiocnkoogachkaa.Hp Go.Proofs.Ytiocnkoogachkaa.Tg
set_option linter.unusedVariables false
set_option linter.unusedSimpArgs false
/-- How places lie. -/
def PF : HForm Int Bool where
  f := fun x => [.int .i64 x.key, .bool x.rank]
  sz := 2
  st := 58
  it := 62
  d := .int .i64
  kv := fun x => .int .i64 x
  len := fun _ => rfl
  pos := by decide
  KV := (kv_int .i64)
  ne := by decide
abbrev Z : Int := 0
theorem less_calls (a b : Int) (w : World) : Calls Try.prog 26 #[.int .i64 a, .int .i64 b] w fun e w' => e = .returned (.bool (decide (a < b))) ∧ w = w' := by
  go_enter Try.func26, Try.ntmps26
  go_wp2
  go_ret
  exact ⟨rfl, rfl⟩
abbrev LV : Value := .func (.func 26) #[] #[]
theorem ok (base : Nat) : LessOk Try.prog (Value.int .i64) LT LV (fun _ => True) (fun _ => False) base :=
  ⟨⟨26, _, #[], rfl, Try.func26, by kernel_rfl, rfl, fun a b w _ _ => (less_calls a b w).mono (by rintro e w' ⟨rfl, rfl⟩; exact ⟨_, rfl, rfl, trivial, Kp.refl _ _⟩)⟩, fun _ _ _ _ => trivial, fun _ h => h.elim⟩
section
variable {w : World} {base tb hb pb : Nat} {fv sv pv : Value} {most held c : Int} {Ps : List (It Int Bool)} {L : List (It Int Int)} {m : Nat}
theorem at_none (h : MR PF w base tb hb pb fv sv pv most Ps L c held) {i : Int} (hi : i < 1 ∨ (Ps.length : Int) < i) :
    Calls Try.prog 32 #[.pointer (some ⟨tb, 0, none⟩), .int .i64 i] w fun e w' => e = .returned (.pointer none) ∧ w = w' := by
  obtain ⟨a, cap, rfl⟩ := h.slice
  have c1 : w.cell? ⟨tb, 1, none⟩ = some (.slice a Ps.length cap) := (blk_cell h.head 1).trans rfl
  clear h
  by_cases h1 : i < 1
  · have t1 : decide (i < 1) = true := decide_eq_true h1
    clear hi h1
    go_enter Try.func32, Try.ntmps32
    go_wp2
    go_ret
    exact ⟨rfl, rfl⟩
  · have t1 : decide (i < 1) = false := decide_eq_false h1
    have t2 : decide ((Ps.length : Int) < i) = true := decide_eq_true (by omega)
    clear hi h1
    go_enter Try.func32, Try.ntmps32
    go_wp2
    go_ret
    exact ⟨rfl, rfl⟩
theorem at_some {g cap : Nat} (h : MR PF w base tb hb pb fv sv (.slice (some ⟨g, 0, none⟩) Ps.length cap) most Ps L c held) {j : Nat} {x : It Int Bool} (hx : Ps[j]? = some x) (hm : Ps.length ≤ 65536) :
    Calls Try.prog 32 #[.pointer (some ⟨tb, 0, none⟩), .int .i64 ((j : Int) + 1)] w fun e w' => e = .returned (.pointer (some ⟨g, j * 2, none⟩)) ∧ w = w' := by
  have c1 : w.cell? ⟨tb, 1, none⟩ = some (.slice (some ⟨g, 0, none⟩) Ps.length cap) := (blk_cell h.head 1).trans rfl
  have hj := (List.getElem?_eq_some_iff.1 hx).1
  have t1 : decide ((j : Int) + 1 < 1) = false := decide_eq_false (by omega)
  have t2 : decide ((Ps.length : Int) < (j : Int) + 1) = false := decide_eq_false (by omega)
  clear h hx
  go_enter Try.func32, Try.ntmps32
  go_wp2
  go_ret
  exact ⟨rfl, rfl⟩
theorem At_none (h : MR PF w base tb hb pb fv sv pv most Ps L c held) {i : Int} (hi : i < 1 ∨ (Ps.length : Int) < i) :
    Calls Try.prog 11 #[.pointer (some ⟨tb, 0, none⟩), .int .i64 i] w fun e w' => e = .returned (.tuple #[.int .i64 Z, .bool false]) ∧ Kp w w' (fun _ => False) := by
  have H := Aside0.mk h
  have HI := Aside0.mk hi
  clear h hi
  go_enter Try.func11, Try.ntmps11
  go_wp2_with (first | (go_at_call 32; refine (at_none H.out HI.out).mono ?_; rintro e w' ⟨rfl, rfl⟩))
  go_ret2
  exact ⟨rfl, Kp.refl _ _⟩
theorem At_some (h : MR PF w base tb hb pb fv sv pv most Ps L c held) {j : Nat} {x : It Int Bool} (hx : Ps[j]? = some x) (hm : Ps.length ≤ 65536) :
    Calls Try.prog 11 #[.pointer (some ⟨tb, 0, none⟩), .int .i64 ((j : Int) + 1)] w fun e w' => e = .returned (.tuple #[.int .i64 x.key, .bool x.rank]) ∧ Kp w w' (fun _ => False) := by
  obtain ⟨g, cap, rfl⟩ := h.slice' (by have := (List.getElem?_eq_some_iff.1 hx).1; omega)
  have e0 : w.cell? ⟨g, j * 2, none⟩ = some (.int .i64 x.key) := h.cellK (k := 0) hx (by decide) rfl
  have e1 : w.cell? ⟨g, j * 2 + 1, none⟩ = some (.bool x.rank) := h.cellK (k := 1) hx (by decide) rfl
  have H := Aside0.mk h
  have HX := Aside0.mk hx
  have HM := Aside0.mk hm
  clear h hx hm
  go_enter Try.func11, Try.ntmps11
  go_wp2_with (first | (go_at_call 32; refine (at_some H.out HX.out HM.out).mono ?_; rintro e w' ⟨rfl, rfl⟩))
  go_region
  go_wp2
  go_ret2
  exact ⟨rfl, (Kp.refl w _).drew⟩
theorem len_calls (h : MR PF w base tb hb pb fv sv pv most Ps L c held) :
    Calls Try.prog 13 #[.pointer (some ⟨tb, 0, none⟩)] w fun e w' => e = .returned (.int .i64 held) ∧ w = w' := by
  have c3 : w.cell? ⟨tb, 3, none⟩ = some (.int .i64 held) := (blk_cell h.head 3).trans rfl
  clear h
  go_enter Try.func13, Try.ntmps13
  go_wp2
  go_ret
  exact ⟨rfl, rfl⟩
theorem free_calls (h : MR PF w base tb hb pb fv sv pv (m : Int) Ps L c held) (P : PI Z m Ps L held) (hm : m ≤ 65536) :
    Calls Try.prog 12 #[.pointer (some ⟨tb, 0, none⟩)] w fun e w' => e = .returned (.int .i64 (freeOf Ps m : Int)) ∧ Kp w w' (fun _ => False) := by
  have c2 : w.cell? ⟨tb, 2, none⟩ = some (.pointer (some ⟨hb, 0, none⟩)) := (blk_cell h.head 2).trans rfl
  cases hL : L with
  | nil =>
    subst hL
    obtain ⟨a, cap, rfl⟩ := h.slice
    have c0 : w.cell? ⟨tb, 0, none⟩ = some (.int .i64 (m : Int)) := (blk_cell h.head 0).trans rfl
    have c1 : w.cell? ⟨tb, 1, none⟩ = some (.slice a Ps.length cap) := (blk_cell h.head 1).trans rfl
    have hl := P.le
    have hf := P.empty
    have H := Aside0.mk h
    clear h P
    by_cases hlt : Ps.length < m
    · rw [if_pos hlt] at hf
      rw [hf]
      have t1 : decide ((Ps.length : Int) < (m : Int)) = true := decide_eq_true (by omega)
      clear hf
      go_enter Try.func12, Try.ntmps12
      go_wp2_with (first | (go_at_call 33; refine (Hii.peek_nil H.out.heap rfl).mono ?_; rintro e w' ⟨rfl, rfl⟩))
      go_region
      go_wp2
      go_ret
      exact ⟨by rw [Int.natCast_add]; rfl, (Kp.refl w _).drew⟩
    · rw [if_neg hlt] at hf
      rw [hf]
      have t1 : decide ((Ps.length : Int) < (m : Int)) = false := decide_eq_false (by omega)
      clear hf
      go_enter Try.func12, Try.ntmps12
      go_wp2_with (first | (go_at_call 33; refine (Hii.peek_nil H.out.heap rfl).mono ?_; rintro e w' ⟨rfl, rfl⟩))
      go_region
      go_wp2
      go_ret
      exact ⟨rfl, (Kp.refl w _).drew⟩
  | cons x L2 =>
    obtain ⟨j, p, hk, _, _, hf⟩ := P.first (show L[0]? = some x by rw [hL]; rfl)
    have HX : Aside0 (L[0]? = some x) := ⟨by rw [hL]; rfl⟩
    rw [hf, show ((j + 1 : Nat) : Int) = x.key by rw [hk]; omega]
    have H := Aside0.mk h
    clear h P hf hk hL
    go_enter Try.func12, Try.ntmps12
    go_wp2_with fail
    refine (Hii.peek_cons H.out.heap HX.out).mono ?_
    rintro e w' ⟨rfl, K⟩
    have HK := Aside0.mk K
    clear K c2
    go_wp2
    go_ret
    exact ⟨rfl, HK.out⟩
end
end Go.Proofs.Ytiocnkoogachkaa.Ti
