/- This text walks the law's filling of a set of bytes. -/
import Derived.Test.YtbaciaolhfmfkaaSzu8
import Derived.Test.YtbaciaolhfmfkaaOp
namespace Go.Proofs.Ytbaciaolhfmfkaa.Fl
open Go.RowKit Go.Proofs.YtbaciaolhfmfkaaW.PrintWords Go.Proofs.Ytbaciaolhfmfkaa.Mp Go.Proofs.Ytbaciaolhfmfkaa.Ow Go.Proofs.Ytbaciaolhfmfkaa.Sp Go.Proofs.Ytbaciaolhfmfkaa.Su8 Go.Proofs.Ytbaciaolhfmfkaa.Op
set_option linter.unusedVariables false
set_option maxRecDepth 100000
/-- The calls that came in. -/
def Script (w : World) (A : Option Addr) (len : Nat) (T : Nat → Rec) : Prop := ∀ i, i < len → ∃ a, A = some a ∧ w.cell? (a.add (i * 4)) = some (.int .i64 (T i).kind) ∧ w.cell? (a.add (i * 4 + 1)) = some (.bool (T i).second) ∧ w.cell? (a.add (i * 4 + 2)) = some (.int .i64 (T i).lo) ∧ w.cell? (a.add (i * 4 + 3)) = some (.int .i64 (T i).hi)
theorem Script.kept {w w2 : World} {A : Option Addr} {len : Nat} {T : Nat → Rec} (h : Script w A len T) (k : Kp w w2 (fun _ => False)) : Script w2 A len T := fun i hi => by
  obtain ⟨a, ha, h1, h2, h3, h4⟩ := h i hi
  exact ⟨a, ha, cell_kp h1 k (fun h => h), cell_kp h2 k (fun h => h), cell_kp h3 k (fun h => h), cell_kp h4 k (fun h => h)⟩
theorem u8_in (x : Int) : tMin ≤ IntKind.u8.wrap x ∧ IntKind.u8.wrap x ≤ tMax := by
  have h : IntKind.u8.wrap x = x % 256 := rfl
  rw [h]
  unfold tMin tMax
  omega
def Filled (w : World) (e : Ending) (w' : World) : Prop := ∃ sv R, e = .returned (.pointer (some ⟨w.heap.size, 0, none⟩)) ∧ SetAt w' w.heap.size w.heap.size sv R ∧ R.length ≤ 40 ∧ Kp w w' (fun _ => False)
set_option maxHeartbeats 2000000 in
theorem filled_calls (A : Option Addr) (len cap : Nat) (T : Nat → Rec) (w : World) (hs : Script w A len T) (hl : len ≤ 9223372036854775807) :
    Calls Try.prog 9 #[.slice A len cap] w fun e w' => Filled w e w' := by
  have HS := Aside0.mk hs
  clear hs
  go_enter Try.func9, Try.ntmps9
  go_wp2_with fail
  refine (new_calls w).mono ?_
  rintro e w1 ⟨rfl, h1, k1⟩
  have HA : Aside0 (∃ sv R, SetAt w1 w.heap.size w.heap.size sv R ∧ R.length ≤ 0 ∧ Kp w w1 (fun _ => False)) := ⟨_, [], h1, by simp, k1⟩
  clear h1 k1
  generalize hp : w.heap.size = p at *
  have HP := Aside0.mk hp
  clear hp
  go_wp2_with fail
  go_loopg [4] 40 (fun g iv wr => ∃ k : Nat, k ≤ len ∧ k ≤ 40 ∧ g = 40 - k ∧ iv = .int .i64 k ∧ Aside0 (∃ sv R, SetAt wr p p sv R ∧ R.length ≤ k ∧ Kp w wr (fun _ => False)))
  case atStart => exact ⟨0, by omega, by omega, rfl, rfl, HA⟩
  case round =>
    clear HA
    obtain ⟨k, hk, hk4, hgk, rfl, HR⟩ := hrel
    by_cases hlt : k < len ∧ k < 40
    · obtain ⟨hlt, hlt4⟩ := hlt
      obtain ⟨sv, R, hS, hRl, hK⟩ := HR.out
      obtain ⟨ad, rfl, t0, t1, t2, t3⟩ := HS.out k hlt
      have t0 := cell_kp t0 hK (fun h => h)
      have t2 := cell_kp t2 hK (fun h => h)
      have t3 := cell_kp t3 hK (fun h => h)
      rw [Ow.add_field _ _ 2 (by omega)] at t2
      rw [Ow.add_field _ _ 3 (by omega)] at t3
      generalize (T k).kind = kd at *
      generalize (T k).lo = lo at *
      generalize (T k).hi = hi at *
      have H1 := Aside0.mk hS
      have H2 := Aside0.mk hK
      have H3 := Aside0.mk hRl
      clear hS hRl hK HR t1
      have k0 : (0 : Int) ≤ (k : Int) := by omega
      have k1 : (k : Int) < (len : Int) := by omega
      by_cases hkd : kd = 2
      · have hk2 : (kd == 2) = true := by simpa using hkd
        clear hkd
        have k40 : (k : Int) < 40 := by omega
        go_wp2
        have d2 : wr.drew.cell? ⟨(ad.add (k * 4)).block, (ad.add (k * 4)).off + 2, none⟩ = some (.int .i64 lo) := t2
        have d3 : wr.drew.cell? ⟨(ad.add (k * 4)).block, (ad.add (k * 4)).off + 3, none⟩ = some (.int .i64 hi) := t3
        have H4 := Aside0.mk (H1.out.stay (dr wr))
        have H5 := Aside0.mk (H2.out.then_ (dr wr) (fun _ h => .inl h))
        have L0 := Aside0.mk (u8_in lo)
        have L1 := Aside0.mk (u8_in hi)
        refine wp_region_still_tail 13 (by kernel_rfl) (by kernel_rfl) ?_
        change wpStill _ _ wr.drew (fun a' => wpList _ _ _ _ a' wr.drew) _ _
        generalize wr.drew = U at *
        clear t0 t2 t3 H1 H2
        simp only [List.take_succ_cons, List.take_zero, List.drop_succ_cons, List.drop_zero]
        repeat still_step
        refine wpStill_nil ?_
        go_wp2_with fail
        refine (cut_sem H4.out (IntKind.u8.wrap lo) (IntKind.u8.wrap hi) L0.out.1 L1.out.2 (by have := H3.out; omega) (by have := H5.out.size; have := HP.out; omega)).mono ?_
        rintro e w5 ⟨b, R5, rfl, hL, _⟩
        have REL : Aside0 (∃ sv R, SetAt w5 p p sv R ∧ R.length ≤ k + 1 ∧ Kp w w5 (fun _ => False)) := ⟨by
          obtain ⟨sv5, h5, _⟩ := hL.set
          exact ⟨sv5, R5, h5, by have := hL.len; have := H3.out; omega, H5.out.then_ hL.kept (fun q hq => .inr (by have := HP.out; omega))⟩⟩
        clear hL H3 H4 H5 d2 d3
        go_wp2
        go_roundg (40 - (k + 1))
        case measure => omega
        case rel => exact ⟨k + 1, by omega, by omega, rfl, by go_num, REL⟩
      · have hk2 : (kd == 2) = false := by simpa using hkd
        clear hkd
        have k40 : (k : Int) < 40 := by omega
        go_wp2
        have d2 : wr.drew.cell? ⟨(ad.add (k * 4)).block, (ad.add (k * 4)).off + 2, none⟩ = some (.int .i64 lo) := t2
        have d3 : wr.drew.cell? ⟨(ad.add (k * 4)).block, (ad.add (k * 4)).off + 3, none⟩ = some (.int .i64 hi) := t3
        have H4 := Aside0.mk (H1.out.stay (dr wr))
        have H5 := Aside0.mk (H2.out.then_ (dr wr) (fun _ h => .inl h))
        have L0 := Aside0.mk (u8_in lo)
        have L1 := Aside0.mk (u8_in hi)
        refine wp_region_still_tail 13 (by kernel_rfl) (by kernel_rfl) ?_
        change wpStill _ _ wr.drew (fun a' => wpList _ _ _ _ a' wr.drew) _ _
        generalize wr.drew = U at *
        clear t0 t2 t3 H1 H2
        simp only [List.take_succ_cons, List.take_zero, List.drop_succ_cons, List.drop_zero]
        repeat still_step
        refine wpStill_nil ?_
        go_wp2_with fail
        refine (add_sem H4.out (IntKind.u8.wrap lo) (IntKind.u8.wrap hi) L0.out.1 L1.out.2 (by have := H3.out; omega) (by have := H5.out.size; have := HP.out; omega)).mono ?_
        rintro e w5 ⟨b, R5, rfl, hL, _⟩
        have REL : Aside0 (∃ sv R, SetAt w5 p p sv R ∧ R.length ≤ k + 1 ∧ Kp w w5 (fun _ => False)) := ⟨by
          obtain ⟨sv5, h5, _⟩ := hL.set
          exact ⟨sv5, R5, h5, by have := hL.len; have := H3.out; omega, H5.out.then_ hL.kept (fun q hq => .inr (by have := HP.out; omega))⟩⟩
        clear hL H3 H4 H5 d2 d3
        go_wp2
        go_roundg (40 - (k + 1))
        case measure => omega
        case rel => exact ⟨k + 1, by omega, by omega, rfl, by go_num, REL⟩
    · obtain ⟨sv, R, hS, hRl, hK⟩ := HR.out
      have H1 := Aside0.mk hS
      have H2 := Aside0.mk hK
      have H3 := Aside0.mk hRl
      clear hS hRl hK HR
      have hor : ¬ k < len ∨ (k < len ∧ ¬ k < 40) := by omega
      rcases hor with hn | ⟨hn, hn2⟩
      · clear hlt
        go_wp2
        go_ret
        exact ⟨sv, R, by rw [HP.out]; rfl, by rw [HP.out]; exact H1.out, by have := H3.out; omega, H2.out⟩
      · clear hlt
        have k40 : ¬ (k : Int) < 40 := by omega
        go_wp2
        go_ret
        exact ⟨sv, R, by rw [HP.out]; rfl, by rw [HP.out]; exact H1.out, by have := H3.out; omega, H2.out⟩
end Go.Proofs.Ytbaciaolhfmfkaa.Fl
