/- This text proves the law WeightFolds as a walk: true whatever the list of words. -/
import Derived.Test.YtbmphjnaefliaaaFold
namespace Go.Proofs.Ytbmphjnaefliaaa.LawE
open Go.RowKit Go.Proofs.YtbmphjnaefliaaaW.PrintWords
open Go.Proofs.Ytbmphjnaefliaaa Go.Proofs.Ytbmphjnaefliaaa.Flt Go.Proofs.Ytbmphjnaefliaaa.Awk Go.Proofs.Ytbmphjnaefliaaa.LawB Go.Proofs.Ytbmphjnaefliaaa.Fold
set_option linter.unusedVariables false

/-- words in cells -/
def wk : Kd Nat := Kd.scalar (fun n : Nat => Value.int .u32 n) (fun _ => rfl)
theorem wk_at {w : World} {A : Option Addr} {l : List Nat} (h : wk.C w A l.length l) (k : Nat) (hk : k < l.length) : ∃ ad, A = some ad ∧ w.cell? (ad.add k) = some (.int .u32 (l[k] : Nat)) := by
  obtain ⟨ad, e, hc⟩ := (Kd.reads_of_C (enc := fun n : Nat => Value.int .u32 n) (d := (0 : Nat)) (h1 := fun _ => rfl) h).at_ (k : Int) (by omega) (by omega)
  rw [show rdOf (0 : Nat) l k = l[k] from by simp [rdOf, hk], Int.toNat_natCast] at hc
  exact ⟨ad, e, hc⟩

theorem rfold_calls (A : Option Addr) (c : Nat) (l : List Nat) (w : World) (hr : wk.C w A l.length l) (hl : ∀ x ∈ l, x < 4294967296) :
    Calls Try.prog 23 #[.slice A l.length c] w fun e w' => e = .returned (.int .u32 (foldW l)) ∧ Below w.heap.size w w' := by
  have hlen := hr.2.1
  have HR := Aside0.mk hr
  have HL := Aside0.mk hl
  clear hr hl
  go_enter Try.func23, Try.ntmps23
  go_wp2
  go_loopw [3, 4] (fun v i wr => ∃ k : Nat, k ≤ l.length ∧ i = .int .i64 k ∧ v = .int .u32 (foldW (l.take k) : Nat) ∧ Aside0 (Below w.heap.size w wr)) (fun _ i _ => l.length - (intOf i).toNat)
  case atStart => exact ⟨0, by omega, rfl, rfl, ⟨Below.refl _ _⟩⟩
  case round =>
    obtain ⟨k, hk, rfl, rfl, HB⟩ := hrel
    by_cases hlt : k < l.length
    · obtain ⟨ad, rfl, hc⟩ := wk_at HR.out k hlt
      replace hc := (HB.out.cell (World.block_lt_of_cell? w _ hc)).trans hc
      have hx := HL.out l[k] (List.getElem_mem _)
      have HT := Aside0.mk (foldW_take l k hlt)
      have hv := foldW_lt (l.take k)
      generalize foldW (l.take k) = v at *
      generalize l[k] = x at *
      go_wp2_with (go_at_call 19; refine (Radd.add_calls v x hv hx _).mono ?_; rintro e w2 ⟨rfl, hb2⟩; have HB2 := Aside0.mk (below_step HB.out hb2); clear hb2)
      go_roundw
      case rel => exact ⟨k + 1, by omega, by go_num, by rw [HT.out], HB2⟩
      case measure => simp [intOf]; omega
    · obtain rfl : k = l.length := by omega
      go_wp2
      go_ret
      exact ⟨by simp, HB.out⟩

theorem foldl_le (l : List Nat) : ∀ i : Nat, i ≤ 2139095040 → l.foldl Math.addW i ≤ 2139095040 := by
  induction l with
  | nil => intro i hi; exact hi
  | cons x r ih => intro i hi; exact ih _ (Math.addW_le _ _)
theorem bits_fold (l : List Nat) : bitsW (foldW l) = foldW l := by
  have h : foldW l ≤ 2139095040 := foldl_le l 0 (by omega)
  unfold bitsW Math.nan
  rw [if_neg (by simp; omega)]

theorem info24 : (Try.prog.info? 24).map (fun i => (i.zero, i.size, i.bytes)) = some (some (.float .f32 0), 1, 4) := by kernel_rfl

theorem folds_calls (A : Option Addr) (c : Nat) (l : List Nat) (w : World) (hr : wk.C w A l.length l) (hl : ∀ x ∈ l, x < 4294967296) (hsz : l.length * 4 ≤ 140737488351232) :
    Calls Try.prog 7 #[.slice A l.length c] w fun e w' => e = .returned (.bool true) ∧ Below w.heap.size w w' := by
  have hlen := hr.2.1
  have HR := Aside0.mk hr
  have HL := Aside0.mk hl
  clear hr hl
  go_enter Try.func7, Try.ntmps7
  go_wp2_with fail
  refine (awake_calls _).mono ?_
  rintro e w1 ⟨rfl, hb1⟩
  have HB1 := Aside0.mk hb1
  clear hb1
  go_wp2_with fail
  go_loopw [3, 9] (fun v i wr => ∃ k : Nat, k ≤ l.length ∧ i = .int .i64 k ∧ Aside0 (fk.R 24 wr w.heap.size (fun _ => True) v (l.take k)) ∧ Aside0 (Below w.heap.size w wr)) (fun _ i _ => l.length - (intOf i).toNat)
  case atStart => exact ⟨0, by omega, rfl, ⟨by simpa using Kd.R_nil fk 24 w1 w.heap.size (fun _ => True)⟩, HB1⟩
  case round =>
    clear HB1
    obtain ⟨k, hk, rfl, HO, HB⟩ := hrel
    by_cases hlt : k < l.length
    · obtain ⟨ad, rfl, hc⟩ := wk_at HR.out k hlt
      replace hc := (HB.out.cell (World.block_lt_of_cell? w _ hc)).trans hc
      have HT := Aside0.mk (List.take_succ_eq_append_getElem hlt)
      have hlk : (l.take k).length = k := by simp; omega
      have HLK := Aside0.mk hlk
      clear hlk
      generalize l[k] = x at *
      go_wp2_with (first
        | (go_at_call 14; refine (float_calls x _).mono ?_; rintro e w' ⟨rfl, rfl⟩)
        | (at_builtin; refine Kd.R_append fk (w0 := w) w.heap.size rfl (.tmp 12) (.tmp 18) 42 24 (.float .f32 0) 4 rfl Try.underlying42 info24 rfl (by decide) (by omega) u3 (l.take k) x [.float .f32 x] (fun _ => True) (fun _ => False) rfl rfl ?aP (fun _ hk => hk.elim) ?aF HO.out HB.out ?aS ?aL ?_; (case aP => exact rfl); (case aF => exact fun _ _ => trivial); (case aS => exact below_size HB.out); (case aL => rw [HLK.out]; omega); intro v4 w4 ho hb4 hg hat; have HO4 := Aside0.mk ho; have HB4 := Aside0.mk hb4; clear ho hb4 hg hat))
      go_roundw
      case measure => simp [intOf]; omega
      case rel => exact ⟨k + 1, by omega, by go_num, ⟨by rw [HT.out]; exact HO4.out⟩, HB4⟩
    · obtain rfl : k = l.length := by omega
      have HO2 : Aside0 (fk.R 24 wr w.heap.size (fun _ => True) u3 l) := ⟨by have := HO.out; rwa [List.take_length] at this⟩
      obtain ⟨A2, c2, rfl, hc2, hr2⟩ := Kd.R_reads HO2.out
      have HR2 := Aside0.mk hr2
      clear hr2 HO HO2
      go_wp2_with fail
      refine (fold_calls _ _ l _ HR2.out HL.out).mono ?_
      rintro e w' ⟨rfl, rfl⟩
      go_wp2_with fail
      refine (rfold_calls A c l _ (Kd.C_below HR.out HB.out) HL.out).mono ?_
      rintro e w5 ⟨rfl, hb5⟩
      have HB5 := Aside0.mk (below_step HB.out hb5)
      clear hb5
      go_wp2_with fail
      refine (is_yes _ (foldW_lt l) (bits_fold l) _).mono ?_
      rintro e w' ⟨rfl, rfl⟩
      go_wp2_with fail
      go_ret
      exact ⟨rfl, HB5.out⟩
end Go.Proofs.Ytbmphjnaefliaaa.LawE
