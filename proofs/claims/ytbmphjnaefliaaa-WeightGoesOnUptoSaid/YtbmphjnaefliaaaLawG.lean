/- This text proves the law WeightGoesOn as a walk: true for two lists of together at most 2^22 words. -/
import Derived.Test.YtbmphjnaefliaaaLawF
namespace Go.Proofs.Ytbmphjnaefliaaa.LawG
open Go.RowKit Go.Proofs.YtbmphjnaefliaaaW.PrintWords
open Go.Proofs.Ytbmphjnaefliaaa Go.Proofs.Ytbmphjnaefliaaa.Flt Go.Proofs.Ytbmphjnaefliaaa.Awk Go.Proofs.Ytbmphjnaefliaaa.LawB Go.Proofs.Ytbmphjnaefliaaa.Fold Go.Proofs.Ytbmphjnaefliaaa.LawE
set_option linter.unusedVariables false

theorem nan_calls (x : Nat) (w : World) : Calls Try.prog 25 #[.int .u32 (x : Int)] w fun e w' => e = .returned (.bool (decide ((x : Int).tmod 2147483648 > 2139095040))) ∧ w = w' := by
  go_enter Try.func25, Try.ntmps25
  go_wp2
  go_ret
  exact ⟨rfl, rfl⟩
theorem nan_dec (x : Nat) : decide ((x : Int).tmod 2147483648 > 2139095040) = Math.nan x := by
  unfold Math.nan
  rw [Int.tmod_eq_emod_of_nonneg (by omega)]
  congr 1
  apply propext
  omega
theorem foldW_take2 (l m : List Nat) (k : Nat) (h : k < m.length) : foldW (l ++ m.take (k + 1)) = Math.addW (foldW (l ++ m.take k)) m[k] := by
  rw [List.take_succ_eq_append_getElem h, ← List.append_assoc, foldW_snoc]
theorem fk_at {w : World} {A : Option Addr} {l : List Nat} (h : fk.C w A l.length l) (k : Nat) (hk : k < l.length) : ∃ ad, A = some ad ∧ w.cell? (ad.add k) = some (.float .f32 l[k]) := by
  obtain ⟨ad, e, hc⟩ := (Kd.reads_of_C (enc := Value.float .f32) (d := (0 : Nat)) (h1 := fun _ => rfl) h).at_ (k : Int) (by omega) (by omega)
  rw [show rdOf (0 : Nat) l k = l[k] from by simp [rdOf, hk], Int.toNat_natCast] at hc
  exact ⟨ad, e, hc⟩

set_option maxHeartbeats 400000 in
theorem goes_calls (A : Option Addr) (c : Nat) (l : List Nat) (B : Option Addr) (d : Nat) (m : List Nat) (w : World) (hr : wk.C w A l.length l) (hr2 : wk.C w B m.length m) (hl : ∀ x ∈ l, x < 4294967296) (hm : ∀ x ∈ m, x < 4294967296) (hsz : l.length + m.length ≤ 4194304) :
    Calls Try.prog 8 #[.slice A l.length c, .slice B m.length d] w fun e w' => e = .returned (.bool true) ∧ Below w.heap.size w w' := by
  have hlen := hr.2.1
  have hlen2 := hr2.2.1
  have HR := Aside0.mk hr
  have HL := Aside0.mk hl
  have HR2 := Aside0.mk hr2
  have HL2 := Aside0.mk hm
  clear hr hl hr2 hm
  go_enter Try.func8, Try.ntmps8
  go_wp2_with fail
  refine (awake_calls _).mono ?_
  rintro e w1 ⟨rfl, hb1⟩
  have HB1 := Aside0.mk hb1
  clear hb1
  go_wp2_with fail
  go_loopw [5, 15] (fun v i wr => ∃ k : Nat, k ≤ l.length ∧ i = .int .i64 k ∧ Aside0 (fk.R 24 wr w.heap.size (fun _ => True) v (l.take k)) ∧ Aside0 (Below w.heap.size w wr)) (fun _ i _ => l.length - (intOf i).toNat)
  case atStart => exact ⟨0, by omega, rfl, ⟨by simpa using Kd.R_nil fk 24 w1 w.heap.size (fun _ => True)⟩, HB1⟩
  case round =>
    clear HB1
    obtain ⟨k, hk, rfl, HO, HB⟩ := hrel
    by_cases hlt : k < l.length
    · obtain ⟨ad, rfl, hc⟩ := wk_at HR.out k hlt
      replace hc := (HB.out.cell (World.block_lt_of_cell? w _ hc)).trans hc
      have HT := Aside0.mk (List.take_succ_eq_append_getElem hlt)
      have hlk : (l.take k).length = k := by simp; omega
      have HLK := Aside0.mk hlk
      clear hlk
      generalize l[k] = x at *
      go_wp2_with (first
        | (go_at_call 14; refine (float_calls x _).mono ?_; rintro e w' ⟨rfl, rfl⟩)
        | (at_builtin; refine Kd.R_append fk (w0 := w) w.heap.size rfl (.tmp 18) (.tmp 24) 42 24 (.float .f32 0) 4 rfl Try.underlying42 info24 rfl (by decide) (by omega) u5 (l.take k) x [.float .f32 x] (fun _ => True) (fun _ => False) rfl rfl ?aP (fun _ hk => hk.elim) ?aF HO.out HB.out ?aS ?aL ?_; (case aP => exact rfl); (case aF => exact fun _ _ => trivial); (case aS => exact below_size HB.out); (case aL => rw [HLK.out]; omega); intro v4 w4 ho hb4 hg hat; have HO4 := Aside0.mk ho; have HB4 := Aside0.mk hb4; clear ho hb4 hg hat))
      go_roundw
      case measure => simp [intOf]; omega
      case rel => exact ⟨k + 1, by omega, by go_num, ⟨by rw [HT.out]; exact HO4.out⟩, HB4⟩
    · obtain rfl : k = l.length := by omega
      have HO2 : Aside0 (fk.R 24 wr w.heap.size (fun _ => True) u5 l) := ⟨by have := HO.out; rwa [List.take_length] at this⟩
      obtain ⟨A2, c2, rfl, hc2, hr2⟩ := Kd.R_reads HO2.out
      have HQ2 := Aside0.mk hr2
      clear hr2 HO
      go_wp2_with fail
      refine (fold_calls _ _ l _ HQ2.out HL.out).mono ?_
      rintro e w' ⟨rfl, rfl⟩
      go_wp2_with fail
      go_loopw [5, 7, 31] (fun v cc i w5 => ∃ k : Nat, k ≤ m.length ∧ i = .int .i64 k ∧ cc = .float .f32 (foldW (l ++ m.take k)) ∧ Aside0 (fk.R 24 w5 w.heap.size (fun _ => True) v (l ++ m.take k)) ∧ Aside0 (Below w.heap.size w w5)) (fun _ _ i _ => m.length - (intOf i).toNat)
      case atStart => exact ⟨0, by omega, rfl, by simp, ⟨by simpa using HO2.out⟩, HB⟩
      case round =>
        clear HB HO2 HQ2
        obtain ⟨k, hk, rfl, hcc, HO, HB⟩ := hrel
        by_cases hlt : k < m.length
        · subst hcc
          obtain ⟨ad, rfl, hc0⟩ := wk_at HR2.out k hlt
          have HC0 := Aside0.mk hc0
          have hlb := World.block_lt_of_cell? w _ hc0
          have hc := (HB.out.cell hlb).trans hc0
          have HLB := Aside0.mk hlb
          clear hc0 hlb
          have HT := Aside0.mk (foldW_take2 l m k hlt)
          have HT2 := Aside0.mk (show l ++ m.take (k + 1) = (l ++ m.take k) ++ [m[k]] by rw [List.take_succ_eq_append_getElem hlt, List.append_assoc])
          have hlk : (l ++ m.take k).length = l.length + k := by simp; omega
          have HLK := Aside0.mk hlk
          clear hlk
          have hx := HL2.out m[k] (List.getElem_mem _)
          have hv := foldW_lt (l ++ m.take k)
          generalize foldW (l ++ m.take k) = v at *
          generalize m[k] = x at *
          go_wp2_with (first
            | (go_at_call 14; refine (float_calls x _).mono ?_; rintro e w' ⟨rfl, rfl⟩)
            | (go_at_call 18; refine (Flt.add_calls v x hv hx _).mono ?_; rintro e w' ⟨rfl, rfl⟩)
            | (at_builtin; refine Kd.R_append fk (w0 := w) w.heap.size rfl (.tmp 34) (.tmp 40) 42 24 (.float .f32 0) 4 rfl Try.underlying42 info24 rfl (by decide) (by omega) u5 (l ++ m.take k) x [.float .f32 x] (fun _ => True) (fun _ => False) rfl rfl ?aP (fun _ hk => hk.elim) ?aF HO.out HB.out ?aS ?aL ?_; (case aP => exact rfl); (case aF => exact fun _ _ => trivial); (case aS => exact below_size HB.out); (case aL => rw [HLK.out]; omega); intro v4 w4 ho hb4 hg hat; have HO4 := Aside0.mk ho; have hc4 := (hb4.cell HLB.out).trans HC0.out; have HB4 := Aside0.mk hb4; clear ho hb4 hg hat))
          go_roundw
          case measure => simp [intOf]; omega
          case rel => exact ⟨k + 1, by omega, by go_num, by rw [HT.out], ⟨by rw [HT2.out]; exact HO4.out⟩, HB4⟩
        · obtain rfl : k = m.length := by omega
          obtain ⟨s, hs⟩ : ∃ s, s = l ++ m := ⟨_, rfl⟩
          have HO3 : Aside0 (fk.R 24 wr w.heap.size (fun _ => True) u5 s) := ⟨by have := HO.out; rw [List.take_length] at this; rwa [hs]⟩
          have HS := Aside0.mk hs
          have HSN : Aside0 (s.length = l.length + m.length) := ⟨by rw [hs, List.length_append]⟩
          have hsb : s.length ≤ 4194304 := by rw [HSN.out]; exact hsz
          have HSL : Aside0 (∀ x ∈ s, x < 4294967296) := ⟨by intro x hx; rw [hs] at hx; rcases List.mem_append.mp hx with h | h; exact HL.out x h; exact HL2.out x h⟩
          obtain ⟨A3, c3, rfl, hc3, hr3⟩ := Kd.R_reads HO3.out
          have HQ3 := Aside0.mk hr3
          rw [List.take_length, ← hs] at hcc
          clear hr3 HO HO3 hs
          have hfs := foldW_lt s
          have HFB0 := bits_fold s
          have r24 := run24 (foldW s)
          generalize hv : foldW s = v at *
          have HV := Aside0.mk hv
          have HFB := Aside0.mk HFB0
          clear HFB0
          clear hv
          subst hcc
          have HFC : Aside0 (∀ W, fk.C W A3 s.length s → Calls Try.prog 22 #[.slice A3 s.length c3] W fun e w' => e = .returned (.float .f32 v) ∧ W = w') := ⟨fun W h => by have := fold_calls A3 c3 s W h HSL.out; rwa [HV.out] at this⟩
          go_wp2_with fail
          refine (HFC.out _ HQ3.out).mono ?_
          rintro e w' ⟨rfl, rfl⟩
          go_wp2_with fail
          refine (is_yes _ hfs HFB.out _).mono ?_
          rintro e w' ⟨rfl, rfl⟩
          go_wp2_with fail
          go_loopw [58] (fun i w5 => ∃ k : Nat, k ≤ s.length ∧ i = .int .i64 k ∧ Aside0 (fk.C w5 A3 s.length s) ∧ Aside0 (Below w.heap.size w w5)) (fun i _ => s.length - (intOf i).toNat)
          case atStart => exact ⟨0, by omega, rfl, HQ3, HB⟩
          case round =>
            clear HB HQ3
            obtain ⟨k, hk, rfl, HQ, HB⟩ := hrel
            by_cases hlt : k < s.length
            · obtain ⟨ad3, rfl, hc3⟩ := fk_at HQ.out k hlt
              by_cases h2 : k < l.length
              · obtain ⟨ad, rfl, hc⟩ := wk_at HR.out k h2
                replace hc := (HB.out.cell (World.block_lt_of_cell? w _ hc)).trans hc
                have he : s[k] = l[k] := by simp only [HS.out]; rw [List.getElem_append_left h2]
                rw [he] at hc3
                generalize l[k] = x at *
                have r24 := run24 x
                obtain ⟨bn, HN⟩ : ∃ bn : Bool, Aside0 (∀ W, Calls Try.prog 25 #[.int .u32 (x : Int)] W fun e w' => e = .returned (.bool bn) ∧ W = w') := ⟨_, ⟨fun W => nan_calls x W⟩⟩
                cases bn
                all_goals
                  go_wp2_with (go_at_call 25; refine (HN.out _).mono ?_; rintro e w' ⟨rfl, rfl⟩)
                  go_roundw
                  case measure => simp [intOf]; omega
                  case rel => exact ⟨k + 1, by omega, by go_num, HQ, HB⟩
              · obtain ⟨j, rfl⟩ : ∃ j, k = l.length + j := ⟨k - l.length, by omega⟩
                have h3 : j < m.length := by have := HSN.out; omega
                obtain ⟨ad, rfl, hc⟩ := wk_at HR2.out j h3
                replace hc := (HB.out.cell (World.block_lt_of_cell? w _ hc)).trans hc
                have he : s[l.length + j] = m[j] := by simp only [HS.out]; rw [List.getElem_append_right (by omega)]; simp
                rw [he] at hc3
                generalize m[j] = x at *
                have r24 := run24 x
                obtain ⟨bn, HN⟩ : ∃ bn : Bool, Aside0 (∀ W, Calls Try.prog 25 #[.int .u32 (x : Int)] W fun e w' => e = .returned (.bool bn) ∧ W = w') := ⟨_, ⟨fun W => nan_calls x W⟩⟩
                have hsub : ((l.length + j : Nat) : Int) - (l.length : Int) = (j : Int) := by omega
                cases bn
                all_goals
                  go_wp2_with (go_at_call 25; refine (HN.out _).mono ?_; rintro e w' ⟨rfl, rfl⟩)
                  go_roundw
                  case measure => simp [intOf]; omega
                  case rel => exact ⟨l.length + j + 1, by omega, by go_num, HQ, HB⟩
            · obtain rfl : k = s.length := by omega
              go_wp2
              go_ret
              exact ⟨rfl, HB.out⟩
end Go.Proofs.Ytbmphjnaefliaaa.LawG
