/- This text proves what the law's fixed fact of a heap over texts answers, as a walk, and that '<' is an order to hand in. -/
import Derived.Test.YtiblnccbeefdkaaGsi
import Derived.Test.YtiblnccbeefdkaaHz
namespace Go.Proofs.Ytiblnccbeefdkaa.Aw
open Go.RowKit Go.Proofs.YtiblnccbeefdkaaW.PrintWords Go.Proofs.Ytiblnccbeefdkaa.Mp Go.Proofs.Ytiblnccbeefdkaa.Hp
set_option linter.unusedVariables false

theorem less29 (a b : Int) (w : World) : Calls Try.prog 29 #[.int .i64 a, .int .i64 b] w fun e w' => e = .returned (.bool (decide (a < b))) ∧ w = w' := by
  go_enter Try.func29, Try.ntmps29
  go_wp2
  go_ret
  exact ⟨rfl, rfl⟩
theorem less9 (a b : Int) (w : World) : Calls Try.prog 9 #[.int .i64 a, .int .i64 b] w fun e w' => e = .returned (.bool (decide (a < b))) ∧ w = w' := by
  go_enter Try.func9, Try.ntmps9
  go_wp2
  go_ret
  exact ⟨rfl, rfl⟩
theorem less13 (a b : Int) (w : World) : Calls Try.prog 13 #[.int .i64 a, .int .i64 b] w fun e w' => e = .returned (.bool (decide (a < b))) ∧ w = w' := by
  go_enter Try.func13, Try.ntmps13
  go_wp2
  go_ret
  exact ⟨rfl, rfl⟩
theorem less19 (a b : Int) (w : World) : Calls Try.prog 19 #[.int .i64 a, .int .i64 b] w fun e w' => e = .returned (.bool (decide (a < b))) ∧ w = w' := by
  go_enter Try.func19, Try.ntmps19
  go_wp2
  go_ret
  exact ⟨rfl, rfl⟩
/-- An order that is '<' and writes nothing. -/
theorem lessOk (F : Nat) (fn : Func) (base : Nat) (hf : Try.prog.funcs[F]? = some fn) (hn : (fn.name == "runtime.NumGoroutine") = false) (hb : fn.body.isSome = true)
    (h : ∀ a b w, Calls Try.prog F #[.int .i64 a, .int .i64 b] w fun e w' => e = .returned (.bool (decide (a < b))) ∧ w = w') :
    LessOk Try.prog (Value.int .i64) LT (.func (.func F) #[] #[]) (fun _ => True) (fun _ => False) base :=
  ⟨⟨F, fn, #[], rfl, hf, hn, hb, fun a b w _ _ => (h a b w).mono (by rintro e w' ⟨rfl, rfl⟩; exact ⟨_, rfl, rfl, trivial, Kp.refl _ _⟩)⟩, fun _ _ _ _ => trivial, fun _ h => h.elim⟩
theorem ok29 (base : Nat) : LessOk Try.prog (Value.int .i64) LT (.func (.func 29) #[] #[]) (fun _ => True) (fun _ => False) base := lessOk 29 _ base Try.func29 (by kernel_rfl) rfl less29
theorem ok9 (base : Nat) : LessOk Try.prog (Value.int .i64) LT (.func (.func 9) #[] #[]) (fun _ => True) (fun _ => False) base := lessOk 9 _ base Try.func9 (by kernel_rfl) rfl less9
theorem ok13 (base : Nat) : LessOk Try.prog (Value.int .i64) LT (.func (.func 13) #[] #[]) (fun _ => True) (fun _ => False) base := lessOk 13 _ base Try.func13 (by kernel_rfl) rfl less13
theorem ok19 (base : Nat) : LessOk Try.prog (Value.int .i64) LT (.func (.func 19) #[] #[]) (fun _ => True) (fun _ => False) base := lessOk 19 _ base Try.func19 (by kernel_rfl) rfl less19

abbrev sa : ByteArray := ⟨#[97]⟩
abbrev sb : ByteArray := ⟨#[98]⟩
/-- a heap's own blocks are new since -/
theorem kept_new {w W W2 : World} {hb pb : Nat} {sv : Value} (h : Kp w W (fun _ => False)) (hk : Kp W W2 (fun k => Mine hb pb sv k ∨ False)) (h1 : w.heap.size ≤ hb) (h2 : w.heap.size ≤ pb) (h3 : ∀ b, sv.ownBlock = some b → w.heap.size ≤ b) : Kp w W2 (fun _ => False) :=
  h.then_ hk (fun k hk => by
    rcases hk with (rfl | rfl | hk) | hk
    · exact .inr h1
    · exact .inr h2
    · exact .inr (h3 _ hk)
    · exact hk.elim)
theorem perm_two {α : Type} {L : List α} {x y : α} (h : L.Perm [x, y]) : L = [x, y] ∨ L = [y, x] := by
  match L, h.length_eq with
  | [a, b], _ =>
    have ha : a = x ∨ a = y := by simpa using h.mem_iff.1 (List.mem_cons_self (a := a) (l := [b]))
    rcases ha with rfl | rfl
    · left
      rw [List.perm_singleton.1 ((List.perm_cons a).1 h)]
    · right
      have h2 := h.trans (List.Perm.swap a x [])
      rw [List.perm_singleton.1 ((List.perm_cons a).1 h2)]
theorem heap_one {κ : Type} (x : It κ Int) : Heap [x] := fun j a b hj ha hb => by
  have := (List.getElem?_eq_some_iff.1 ha).1
  simp at this
  omega
set_option maxHeartbeats 2000000 in
set_option maxRecDepth 100000 in
theorem awake_calls (w : World) : Calls Try.prog 10 #[] w fun e w' => e = .returned (.bool true) ∧ Kp w w' (fun _ => False) := by
  have L := ok29 w.heap.size
  go_enter Try.func10, Try.ntmps10
  go_wp2_with fail
  refine (Hsi.new_calls 29 #[] w).mono ?_
  rintro e w1 ⟨rfl, R1, K1⟩
  have HR1 := Aside0.mk R1
  have HK1 := Aside0.mk K1
  have HL := Aside0.mk L
  clear R1 K1 L
  go_wp2_with fail
  refine (Hsi.push_calls HL.out _ _ _ [] 0 w1 sa 5 (by simp) (by omega) (by omega) (by simp [keys]) HR1.out trivial).mono ?_
  rintro e w2 ⟨rfl, sv2, L2, u2, R2, P2, _, K2, F2⟩
  have hH2 := push_heap heap_nil u2
  have hl2 : L2 = [⟨sa, 5, 1⟩] := by
    have := List.perm_singleton.1 P2
    exact this
  subst hl2
  have Q2 := kept_new HK1.out K2 (by omega) (by omega) (fun b h => by cases h)
  have HR2 := Aside0.mk R2
  have HQ2 := Aside0.mk Q2
  have HF2 := Aside0.mk F2
  have HK1s := HK1.out.1
  clear u2 R2 P2 K2 F2 Q2 HR1 HK1 hH2
  go_wp2_with fail
  refine (Hsi.push_calls HL.out _ _ sv2 [⟨sa, 5, 0 + 1⟩] (0 + 1) w2 sb 3 (by simp) (by omega) (by omega) (by simp [keys]) HR2.out trivial).mono ?_
  rintro e w3 ⟨rfl, sv3, L3, u3, R3, P3, _, K3, F3⟩
  have HH3 := Aside0.mk (push_heap (heap_one _) u3)
  have HP3 := Aside0.mk (perm_two P3)
  have HQ3 := Aside0.mk (kept_new HQ2.out K3 (by omega) (by omega) (fun b h => (HF2.out b h).elim (fun h => by cases h) (fun h => Nat.le_trans HK1s h)))
  have HF3 : Aside0 (∀ b, sv3.ownBlock = some b → w.heap.size ≤ b) := ⟨fun b h => (F3 b h).elim (fun h => (HF2.out b h).elim (fun h => by cases h) (fun h => Nat.le_trans HK1s h)) (fun h => Nat.le_trans HQ2.out.1 h)⟩
  have HR3 := Aside0.mk R3
  clear u3 R3 P3 K3 F3 HR2 HQ2 HF2
  obtain ⟨i, hi, hset⟩ : ∃ i, L3[i]? = some ⟨sa, 5, 0 + 1⟩ ∧ (L3.set i ⟨sa, 2, 0 + 1⟩ = [⟨sa, 2, 0 + 1⟩, ⟨sb, 3, 0 + 1 + 1⟩] ∨ L3.set i ⟨sa, 2, 0 + 1⟩ = [⟨sb, 3, 0 + 1 + 1⟩, ⟨sa, 2, 0 + 1⟩]) := by
    rcases HP3.out with h | h
    · exact ⟨0, by rw [h]; rfl, .inl (by rw [h]; rfl)⟩
    · exact ⟨1, by rw [h]; rfl, .inr (by rw [h]; rfl)⟩
  have HI := Aside0.mk hi
  have HS := Aside0.mk hset
  have HN3 : Aside0 (L3.length = 2) := ⟨by rcases HP3.out with h | h <;> rw [h] <;> rfl⟩
  clear hi hset
  go_wp2_with fail
  refine (Hsi.push_in HR3.out HI.out 1).mono ?_
  rintro e w' ⟨rfl, rfl⟩
  go_wp2_with fail
  refine (Hsi.lower_in HL.out HR3.out trivial HI.out 2 (by rw [HN3.out]; omega)).mono ?_
  rintro e w4 ⟨r, rfl, hr, _, K4, hcase⟩
  obtain rfl : r = true := by rw [show r = decide ((2 : Int) < 5) from hr]; rfl
  obtain ⟨L4, u4, P4, R4⟩ : ∃ L4, UpR LT (L3.set i ⟨sa, 2, 0 + 1⟩) i L4 ∧ L4.Perm (L3.set i ⟨sa, 2, 0 + 1⟩) ∧ Rep Hsi.F w4 w.heap.size (w.heap.size + 1) w.heap.size (.func (.func 29) #[] #[]) sv3 L4 (0 + 1 + 1) := by
    rcases hcase with ⟨h, _⟩ | ⟨_, L4, u4, P4, R4⟩
    · cases h
    · exact ⟨L4, u4, P4, R4⟩
  have hH4 := lower_heap HH3.out HI.out (by unfold Lt; simp) u4
  have hm4 : ∀ z, z ∈ L4 ↔ z = ⟨sa, 2, 0 + 1⟩ ∨ z = ⟨sb, 3, 0 + 1 + 1⟩ := fun z => by
    rw [P4.mem_iff]
    rcases HS.out with h | h
    · rw [h]; simp
    · rw [h]; simp [or_comm]
  have hl4 : L4.length = 2 := by rw [P4.length_eq, List.length_set, HN3.out]
  have h40 : L4[0]? = some ⟨sa, 2, 0 + 1⟩ := by
    obtain ⟨z, hz⟩ : ∃ z, L4[0]? = some z := ⟨_, List.getElem?_eq_getElem (by omega)⟩
    rcases (hm4 z).1 (List.mem_of_getElem? hz) with rfl | rfl
    · exact hz
    · exact absurd (show Lt (⟨sa, 2, 0 + 1⟩ : It ByteArray Int) ⟨sb, 3, 0 + 1 + 1⟩ from .inl (by simp)) (hH4.least_mem hz ((hm4 _).2 (.inl rfl)))
  have H40 := Aside0.mk h40
  have HN4 := Aside0.mk hl4
  have HR4 := Aside0.mk R4
  have HQ4 := Aside0.mk (kept_new HQ3.out K4 (by omega) (by omega) HF3.out)
  clear hr K4 hcase u4 P4 R4 hH4 hm4 hl4 h40 HR3 HQ3 HI HS HP3 HH3
  go_wp2_with fail
  refine (Hsi.pop_cons HL.out HR4.out trivial H40.out (by rw [HN4.out]; omega)).mono ?_
  rintro e w5 ⟨rfl, sv5, L5, D5, R5, _, K5, _⟩
  have hl5 : L5.length = 1 := by
    have h := (DropR.perm D5 H40.out).length_eq
    rw [List.length_cons, HN4.out] at h
    omega
  have HR5 := Aside0.mk R5
  have HL5 := Aside0.mk hl5
  have HQ5 := Aside0.mk (kept_new HQ4.out K5 (by omega) (by omega) HF3.out)
  clear D5 R5 K5 hl5 HR4 HQ4
  go_wp2_with fail
  refine (Hsi.len_calls HR5.out).mono ?_
  rintro e w' ⟨rfl, rfl⟩
  rw [HL5.out]
  go_wp2
  go_ret
  exact ⟨rfl, HQ5.out⟩
end Go.Proofs.Ytiblnccbeefdkaa.Aw
