/- This text proves that the reference's Counts, parts and Add answer the sum of two words rounded to the nearest one, as walks. -/
import Derived.Test.YtbmphjnaefliaaaFlt
import Derived.Test.YtbmphjnaefliaaaWMore
import Derived.Test.YtbmphjnaefliaaaMath3
import Derived.Deep.DeepMust
import Derived.Deep.QuietTactic
import Derived.BigQuiet
namespace Go.Proofs.Ytbmphjnaefliaaa.Radd
open Go.RowKit Go.Proofs.YtbmphjnaefliaaaW.PrintWords
open Go.Proofs.Ytbmphjnaefliaaa Go.Proofs.Ytbmphjnaefliaaa.Flt
set_option linter.unusedVariables false

theorem counts_calls (x : Nat) (hx : x < 4294967296) (w : World) : Calls Try.prog 32 #[.int .u32 x] w fun e w' => e = .returned (.int .i64 (Math.cnt x)) ∧ w = w' := by
  unfold Math.cnt
  by_cases h1 : x = 2147483648
  · subst h1
    go_enter Try.func32, Try.ntmps32
    go_wp2
    go_ret
    exact ⟨rfl, rfl⟩
  · rw [if_neg h1]
    by_cases h2 : x > 2139095040
    · rw [if_pos h2]
      go_enter Try.func32, Try.ntmps32
      go_wp2
      go_ret
      exact ⟨rfl, rfl⟩
    · rw [if_neg h2]
      go_enter Try.func32, Try.ntmps32
      go_wp2
      go_ret
      exact ⟨rfl, rfl⟩

theorem parts_calls (x : Nat) (hx : x < 2139095040) (m : Int) (hm : m = x) (w : World) : Calls Try.prog 33 #[.int .i64 m] w fun e w' => e = .returned (.tuple #[.int .i64 (Math.mg x), .int .i64 ((Math.ex x + 1 : Nat) : Int)]) ∧ w = w' := by
  subst hm
  unfold Math.mg Math.ex
  by_cases h1 : x < 8388608
  · rw [if_pos h1, show x / 8388608 - 1 + 1 = 1 by omega]
    have e1 : (x : Int) / 8388608 = 0 := by omega
    go_enter Try.func33, Try.ntmps33
    go_wp2
    go_ret2
    exact ⟨by simp; omega, rfl⟩
  · rw [if_neg h1, show x / 8388608 - 1 + 1 = x / 8388608 by omega]
    have e1 : ((x : Int) / 8388608 == 0) = false := by simp; omega
    go_enter Try.func33, Try.ntmps33
    go_wp2
    go_ret2
    exact ⟨by simp; omega, rfl⟩

theorem counts_v (x v : Nat) (hx : x < 4294967296) (hv : Math.cnt x = v) (w : World) : Calls Try.prog 32 #[.int .u32 x] w fun e w' => e = .returned (.int .i64 v) ∧ w = w' := by
  subst hv
  exact counts_calls x hx w

theorem log_find (s k : Nat) (hs : s < 2 ^ 50) : (k < s.log2 - 23 → 16777216 ≤ s / 2 ^ k) ∧ s.log2 - 23 ≤ 26 := by
  by_cases h0 : s = 0
  · subst h0; simp
  have h1 := (Math.log2_bd s h0).1
  have h2 := (Nat.log2_lt h0 (k := 50)).2 hs
  refine ⟨fun h => ?_, by omega⟩
  rw [Nat.le_div_iff_mul_le (Nat.two_pow_pos _), show 16777216 = 2 ^ 24 from rfl, ← Nat.pow_add]
  exact Nat.le_trans (Nat.pow_le_pow_right (by omega) (by omega)) h1

theorem add_inf (x y a b : Nat) (hx : x < 4294967296) (hy : y < 4294967296) (w : World) (hor : Math.cnt x = a ∧ Math.cnt y = b ∧ b < a ∨ Math.cnt x = b ∧ Math.cnt y = a ∧ b < a ∨ Math.cnt x = a ∧ Math.cnt y = a ∧ a = b) (ha : a = 2139095040) :
    Calls Try.prog 19 #[.int .u32 x, .int .u32 y] w fun e w' => e = .returned (.int .u32 2139095040) ∧ Below w.heap.size w w' := by
  subst ha
  rcases hor with ⟨hcx, hcy, hlt⟩ | ⟨hcx, hcy, hlt⟩ | ⟨hcx, hcy, hlt⟩
  all_goals
    have HX := Aside0.mk hcx
    have HY := Aside0.mk hcy
    clear hcx hcy
    try subst hlt
    go_enter Try.func19, Try.ntmps19
    go_wp2_with fail
    refine (counts_v x _ hx HX.out _).mono ?_
    rintro e w' ⟨rfl, rfl⟩
    go_wp2_with fail
    refine (counts_v y _ hy HY.out _).mono ?_
    rintro e w' ⟨rfl, rfl⟩
    go_wp2_with fail
    refine (counts_v x _ hx HX.out _).mono ?_
    rintro e w' ⟨rfl, rfl⟩
    go_wp2_with fail
    refine (counts_v y _ hy HY.out _).mono ?_
    rintro e w' ⟨rfl, rfl⟩
    go_wp2
    go_ret
    exact ⟨rfl, Below.refl _ _⟩

theorem add_far (x y a b : Nat) (hx : x < 4294967296) (hy : y < 4294967296) (w : World) (hor : Math.cnt x = a ∧ Math.cnt y = b ∧ b < a ∨ Math.cnt x = b ∧ Math.cnt y = a ∧ b < a ∨ Math.cnt x = a ∧ Math.cnt y = a ∧ a = b) (ha : a < 2139095040) (hf : Math.ex b + 26 ≤ Math.ex a) :
    Calls Try.prog 19 #[.int .u32 x, .int .u32 y] w fun e w' => e = .returned (.int .u32 a) ∧ Below w.heap.size w w' := by
  have hne : ((a : Int) == 2139095040) = false := by simp; omega
  have hb : b < 2139095040 := by omega
  have e1 : Math.ex a < 300 := by unfold Math.ex; omega
  rcases hor with ⟨hcx, hcy, hlt⟩ | ⟨hcx, hcy, hlt⟩ | ⟨hcx, hcy, hlt⟩
  case inr.inr => subst hlt; omega
  all_goals
    have HX := Aside0.mk hcx
    have HY := Aside0.mk hcy
    clear hcx hcy
    try subst hlt
    go_enter Try.func19, Try.ntmps19
    go_wp2_with fail
    refine (counts_v x _ hx HX.out _).mono ?_
    rintro e w' ⟨rfl, rfl⟩
    go_wp2_with fail
    refine (counts_v y _ hy HY.out _).mono ?_
    rintro e w' ⟨rfl, rfl⟩
    go_wp2_with fail
    refine (counts_v x _ hx HX.out _).mono ?_
    rintro e w' ⟨rfl, rfl⟩
    go_wp2_with fail
    refine (counts_v y _ hy HY.out _).mono ?_
    rintro e w' ⟨rfl, rfl⟩
    go_wp2_with fail
    refine (parts_calls _ ha _ rfl _).mono ?_
    rintro e w' ⟨rfl, rfl⟩
    go_wp2_with fail
    refine (parts_calls _ hb _ rfl _).mono ?_
    rintro e w' ⟨rfl, rfl⟩
    go_wp2
    go_ret
    exact ⟨rfl, Below.refl _ _⟩

theorem sm_run (a b : Nat) (hf : Math.ex a - Math.ex b ≤ 25) : wrap64 (wrap64 ((Math.mg a : Int) * 2 ^ (Math.ex a - Math.ex b)) + (Math.mg b : Int)) = ((Math.sm a b : Nat) : Int) := by
  have h1 := Math.sm_bd a b hf
  have h2 : ((Math.mg a * 2 ^ (Math.ex a - Math.ex b) : Nat) : Int) = (Math.mg a : Int) * 2 ^ (Math.ex a - Math.ex b) := by
    rw [Int.natCast_mul, Int.natCast_pow]; rfl
  unfold Math.sm at h1 ⊢
  rw [← h2]
  generalize Math.mg a * 2 ^ (Math.ex a - Math.ex b) = z at *
  unfold wrap64
  omega

theorem cast_div (s k : Nat) : ((s / 2 ^ k : Nat) : Int) = (s : Int) / 2 ^ k := by rw [Int.natCast_ediv, Int.natCast_pow]; rfl
theorem dec_hi (s k : Nat) (h : 16777216 ≤ s / 2 ^ k) : decide ((16777216 : Int) ≤ (s : Int) / 2 ^ k) = true := by
  rw [← cast_div]
  generalize s / 2 ^ k = z at *
  simp
  omega
theorem dec_lo (s k : Nat) (h : s / 2 ^ k < 16777216) : decide ((16777216 : Int) ≤ (s : Int) / 2 ^ k) = false := by
  rw [← cast_div]
  generalize s / 2 ^ k = z at *
  simp
  omega
theorem pow_wrap (k : Nat) (h : k ≤ 26) : IntKind.i64.wrap (2 ^ k) = ((2 ^ k : Nat) : Int) := by
  have h1 : 2 ^ k ≤ 2 ^ 26 := Nat.pow_le_pow_right (by omega) h
  have h2 : ((2 : Int) ^ k) = ((2 ^ k : Nat) : Int) := by rw [Int.natCast_pow]; rfl
  rw [h2]
  generalize 2 ^ k = g at *
  exact IntWalk.i64_in _ (by omega)
theorem pow_wrap2 (k : Nat) (h : k ≤ 26) : wrap64 (2 ^ k) = ((2 ^ k : Nat) : Int) := by
  have h1 : 2 ^ k ≤ 2 ^ 26 := Nat.pow_le_pow_right (by omega) h
  have h2 : ((2 : Int) ^ k) = ((2 ^ k : Nat) : Int) := by rw [Int.natCast_pow]; rfl
  rw [h2]
  generalize 2 ^ k = g at *
  unfold wrap64; omega
theorem near_cases (r k eb q rs hh g : Nat) (hr : r = min ((k + eb) * 8388608 + (q + Math.up g q rs)) 2139095040) (h1 : q + Math.up g q rs ≤ 16777216) (h2 : q + Math.up g q rs < 8388608 → k = 0 ∧ eb = 0) (h0 : ¬ k = 0) (hg : g = 2 * hh) (hrs : rs < g) (hq : q < 16777216) :
    ∃ (Q : Nat) (bq : Bool), 8388608 ≤ Q ∧ Q ≤ 16777216 ∧ r = min (k * 8388608 + eb * 8388608 + Q) 2139095040 ∧ Q = (if bq then q + 1 else q) ∧ ((rs < hh ∧ bq = false) ∨ (hh < rs ∧ bq = true) ∨ (rs = hh ∧ q % 2 = 1 ∧ bq = true) ∨ (rs = hh ∧ q % 2 = 0 ∧ bq = false)) := by
  rw [Nat.add_mul] at hr
  have hu : (Math.up g q rs = 0 ∧ ((rs < hh) ∨ (rs = hh ∧ q % 2 = 0))) ∨ (Math.up g q rs = 1 ∧ ((hh < rs) ∨ (rs = hh ∧ q % 2 = 1))) := by
    clear hr h1 h2
    unfold Math.up
    split <;> omega
  have hlo : 8388608 ≤ q + Math.up g q rs := by
    clear hr hu
    rcases Nat.lt_or_ge (q + Math.up g q rs) 8388608 with h | h
    · exact absurd (h2 h).1 h0
    · exact h
  rcases hu with ⟨hu, h3⟩ | ⟨hu, h3⟩
  · refine ⟨q + Math.up g q rs, false, hlo, h1, hr, by rw [hu]; rfl, ?_⟩
    rcases h3 with h3 | h3
    · exact .inl ⟨h3, rfl⟩
    · exact .inr (.inr (.inr ⟨h3.1, h3.2, rfl⟩))
  · refine ⟨q + Math.up g q rs, true, hlo, h1, hr, by rw [hu]; rfl, ?_⟩
    rcases h3 with h3 | h3
    · exact .inr (.inl ⟨h3, rfl⟩)
    · exact .inr (.inr (.inl ⟨h3.1, h3.2, rfl⟩))
theorem fin_inf {r k eb Q : Nat} (h : r = min (k * 8388608 + eb * 8388608 + Q) 2139095040) (h1 : 8388608 ≤ Q) (h3 : 255 ≤ eb + 1 + k) : Hid (r = 2139095040) := by
  show r = 2139095040
  omega
theorem fin_norm {r k eb Q : Nat} (h : r = min (k * 8388608 + eb * 8388608 + Q) 2139095040) (h2 : Q < 16777216) (h3 : ¬ 255 ≤ eb + 1 + k) : Hid ((r : Int) = (k : Int) * 8388608 + (eb : Int) * 8388608 + Q ∧ r < 2139095040) := by
  show (r : Int) = (k : Int) * 8388608 + (eb : Int) * 8388608 + Q ∧ r < 2139095040
  omega
theorem fin_infT {r k eb : Nat} (h : r = min (k * 8388608 + eb * 8388608 + (16777215 + 1)) 2139095040) (h3 : 255 ≤ eb + 1 + (k + 1)) : Hid (r = 2139095040) := by
  show r = 2139095040
  omega
theorem fin_normT {r k eb : Nat} (h : r = min (k * 8388608 + eb * 8388608 + (16777215 + 1)) 2139095040) (h3 : ¬ 255 ≤ eb + 1 + (k + 1)) : Hid ((r : Int) = (k : Int) * 8388608 + (eb : Int) * 8388608 + 16777216 ∧ r < 2139095040) := by
  show (r : Int) = (k : Int) * 8388608 + (eb : Int) * 8388608 + 16777216 ∧ r < 2139095040
  omega
theorem qlt {q : Nat} (h : q < 16777216) (h4 : ¬ q = 16777215) : q + 1 < 16777216 := by omega
theorem kpos (k : Nat) (h : ¬ k = 0) : (1 : Int) ≤ k := by omega
theorem sm_self (a : Nat) : (Math.mg a : Int) + (Math.mg a : Int) = ((Math.sm a a : Nat) : Int) := by
  unfold Math.sm
  rw [Nat.sub_self]
  simp
theorem tmod_nat (z g : Nat) : (z : Int).tmod (g : Int) = ((z % g : Nat) : Int) := by rw [Int.tmod_eq_emod_of_nonneg (by omega)]; rfl
theorem run_rem (z g rs : Nat) (hg : 0 < g) (hr : rs = z % g) (w : World) : (binOp .rem 3 (.int .i64 (z : Int)) (.int .i64 (g : Int))).run Try.prog w = .ok (.int .i64 (rs : Int)) w := by
  have h := tmod_nat z g
  have h1 : ¬ g = 0 := by omega
  simp [binOp, Op.intDiv, h, h1, hr]
theorem run_shr (z k q : Nat) (hk : k ≤ 26) (hq : q = z / 2 ^ k) (w : World) : (binOp .shr 3 (.int .i64 (z : Int)) (.int .i64 (k : Int))).run Try.prog w = .ok (.int .i64 (q : Int)) w := by
  subst hq
  rw [cast_div]
  have h1 : ¬ ((k : Int) < 0) := by omega
  have h2 : min (k : Int).toNat 64 = k := by omega
  simp [binOp]
theorem run_shl (k g : Nat) (hk : k ≤ 26) (hg : g = 2 ^ k) (w : World) : (binOp .shl 3 (.int .i64 1) (.int .i64 (k : Int))).run Try.prog w = .ok (.int .i64 (g : Int)) w := by
  have h0 := pow_wrap k hk
  subst hg
  have h1 : ¬ ((k : Int) < 0) := by omega
  have h2 : min (k : Int).toNat 64 = k := by omega
  simp [binOp]
  rw [h0]
  simp

def AddPost (r : Nat) (w : World) (e : Ending) (w' : World) : Prop := e = .returned (.int .u32 r) ∧ Below w.heap.size w w'

set_option maxRecDepth 100000 in
set_option maxHeartbeats 4000000 in
theorem add_near (x y a b : Nat) (hx : x < 4294967296) (hy : y < 4294967296) (w : World) (hor : Math.cnt x = a ∧ Math.cnt y = b ∧ b < a ∨ Math.cnt x = b ∧ Math.cnt y = a ∧ b < a ∨ Math.cnt x = a ∧ Math.cnt y = a ∧ a = b) (r : Nat) (ha : a < 2139095040) (hf : Math.ex a < Math.ex b + 26) (hab : Math.ex b ≤ Math.ex a) (hr : r = Math.rnd (Math.V a + Math.V b)) :
    Calls Try.prog 19 #[.int .u32 x, .int .u32 y] w (AddPost r w) := by
  have hne : ((a : Int) == 2139095040) = false := by simp; omega
  have hb : b < 2139095040 := by omega
  have e1 : Math.ex a < 300 := by unfold Math.ex; omega
  have m1 := Math.mg_lt a
  have m2 := Math.mg_lt b
  have HS := Aside0.mk (sm_run a b (by omega))
  have HSB := Aside0.mk (Math.sm_bd a b (by omega))
  have HF : Aside0 (∀ k : Nat, k < (Math.sm a b).log2 - 23 → decide ((16777216 : Int) ≤ ((Math.sm a b : Nat) : Int) / 2 ^ k) = true) := ⟨fun k hk => dec_hi _ _ ((log_find (Math.sm a b) k HSB.out).1 hk)⟩
  have HE : Aside0 (decide ((16777216 : Int) ≤ ((Math.sm a b : Nat) : Int) / 2 ^ ((Math.sm a b).log2 - 23)) = false) := ⟨dec_lo _ _ (Math.quo_hi (Math.sm a b))⟩
  have hsh := (log_find (Math.sm a b) 0 HSB.out).2
  have HR := Aside0.mk hr
  clear hr
  obtain ⟨sh, hshh⟩ : ∃ sh, sh = (Math.sm a b).log2 - 23 := ⟨_, rfl⟩
  rw [← hshh] at HF hsh HE
  have HH := Aside0.mk hshh
  clear hshh
  rcases hor with ⟨hcx, hcy, hlt⟩ | ⟨hcx, hcy, hlt⟩ | ⟨hcx, hcy, hlt⟩
  case inr.inr =>
    have HX := Aside0.mk hcx
    have HY := Aside0.mk hcy
    clear hcx hcy
    try subst hlt
    go_enter Try.func19, Try.ntmps19
    go_wp2_with fail
    refine (counts_v x _ hx HX.out _).mono ?_
    rintro e w' ⟨rfl, rfl⟩
    go_wp2_with fail
    refine (counts_v y _ hy HY.out _).mono ?_
    rintro e w' ⟨rfl, rfl⟩
    go_wp2_with fail
    refine (counts_v x _ hx HX.out _).mono ?_
    rintro e w' ⟨rfl, rfl⟩
    go_wp2_with fail
    refine (counts_v y _ hy HY.out _).mono ?_
    rintro e w' ⟨rfl, rfl⟩
    go_wp2_with fail
    refine (parts_calls _ ha _ rfl _).mono ?_
    rintro e w' ⟨rfl, rfl⟩
    go_wp2_with fail
    refine (parts_calls _ hb _ rfl _).mono ?_
    rintro e w' ⟨rfl, rfl⟩
    go_wp2_with fail
    rw [sm_self a]
    go_loop [12] (fun v => ∃ k : Nat, k ≤ sh ∧ v = .int .i64 k) (fun v => sh - (intOf v).toNat)
    case atStart => exact ⟨0, by omega, rfl⟩
    case round =>
      obtain ⟨k, hk, rfl⟩ := hrel
      by_cases hlt : k < sh
      · have hge := HF.out k hlt
        clear HF HE
        generalize Math.sm a a = z at *
        go_wp2
        go_round
        case measure => simp [intOf]; omega
        case rel => exact ⟨k + 1, by omega, by go_num⟩
      · obtain rfl : k = sh := by omega
        have hge := HE.out
        obtain ⟨hq1, hq2, hrn⟩ := Math.rnd_near a a _ hab rfl
        rw [← HH.out] at hq1 hq2 hrn
        have hqh := Math.quo_hi (Math.sm a a)
        rw [← HH.out] at hqh
        have hre := HR.out.trans hrn
        clear HF HE HR HS HH HSB hrn
        generalize Math.sm a a = z at *
        go_wp2_with fail
        obtain ⟨q, rs, g, hh, hqe, hrse, hge', hhe⟩ : ∃ q rs g hh : Nat, q = z / 2 ^ k ∧ rs = z % 2 ^ k ∧ g = 2 ^ k ∧ hh = 2 ^ (k - 1) := ⟨_, _, _, _, rfl, rfl, rfl, rfl⟩
        have r59 : (z : Int) / 2 ^ k = (q : Int) := by rw [hqe, cast_div]
        have r62 : IntKind.i64.wrap (2 ^ k) = (g : Int) := by rw [hge']; exact pow_wrap k hsh
        have r63 : (z : Int).tmod (g : Int) = (rs : Int) := by rw [hge', hrse]; exact tmod_nat _ _
        have rg0 : ¬ (g : Int) = 0 := by have := Nat.two_pow_pos k; rw [hge']; omega
        have r64 : wrap64 (2 ^ k) = (g : Int) := by rw [hge']; exact pow_wrap2 k hsh
        have R := Aside0.mk (And.intro r59 (And.intro r62 (And.intro r63 (And.intro r64 rg0))))
        clear r59 r62 r63 r64 rg0
        have r68 : IntKind.i64.wrap (2 ^ (k - 1)) = (hh : Int) := by rw [hhe]; exact pow_wrap (k - 1) (by omega)
        have r69 : wrap64 (2 ^ (k - 1)) = (hh : Int) := by rw [hhe]; exact pow_wrap2 (k - 1) (by omega)
        rw [← hqe, ← hrse, ← hge'] at hre hq1 hq2
        rw [← hqe] at hqh
        have hg2 : k = 0 → g = 1 ∧ rs = 0 := fun h => by subst h; simp [hge', hrse, Nat.mod_one]
        have hg3 : ¬ k = 0 → g = 2 * hh := fun h => by rw [hge', hhe, ← Nat.pow_succ']; congr 1; omega
        have hgr : rs < g := by rw [hrse, hge']; exact Nat.mod_lt _ (Nat.two_pow_pos _)
        clear hqe hrse hge' hhe hge
        have HRE := Aside0.mk hre
        have HQ := Aside0.mk (And.intro hq1 hq2)
        have HG := Aside0.mk (And.intro hg2 (And.intro hg3 hgr))
        have HQH := Aside0.mk hqh
        clear hre hq1 hq2 hg2 hg3 hgr hqh
        go_cut [13, 14, 15] (fun v13 v14 v15 wc => v13 = .int .i64 q ∧ v14 = .int .i64 rs ∧ v15 = .int .i64 0 ∧ Aside0 (Below w.heap.size w wc))
        case first =>
          clear HRE HQ HG HQH r68 r69
          obtain ⟨r59, r62, r63, r64, rg0⟩ := R.out
          clear R HX HY hf hab ha hb hx hy hne
          have rgn : ¬ g = 0 := fun h => rg0 (by rw [h]; rfl)
          go_region
          all_goals go_wp2
          go_meet
          case rel => exact ⟨rfl, rfl, rfl, ⟨(Below.refl _ _).drew⟩⟩
        case rest =>
          obtain ⟨rfl, rfl, rfl, HB⟩ := hcut
          have he : Math.ex a < 300 := by omega
          clear R HX HY hf hab ha hx hy hne m1 m2 hb e1
          generalize Math.ex a = eb at *
          by_cases h0 : k = 0
          · obtain ⟨rfl, rfl⟩ := HG.out.1 h0
            subst h0
            have hu : Math.up 1 q 0 = 0 := by unfold Math.up; rw [if_neg (by omega)]
            have hre := HRE.out
            have hqq := HQ.out
            rw [hu] at hre hqq
            have hqh := HQH.out
            clear HRE HQ HG HQH hu r68 r69
            have hne2 : ((q : Int) == 16777216) = false := by simp; omega
            by_cases h1 : 255 ≤ eb + 1
            · have hr2 : Hid (r = 2139095040) := by show r = 2139095040; omega
              have hb1 : decide ((255 : Int) ≤ (eb : Int) + 1) = true := by simp; omega
              clear hre hqq
              go_wp2
              go_ret
              exact ⟨by rw [hr2.out]; rfl, HB.out⟩
            · by_cases h2 : q < 8388608
              · have HR2 : Aside0 (r = q) := ⟨by have := hqq.2 h2; omega⟩
                have hb1 : decide ((255 : Int) ≤ (eb : Int) + 1) = false := by simp; omega
                have hb2 : decide ((q : Int) < 8388608) = true := by simp; omega
                clear hre hqq
                go_wp2
                go_ret
                exact ⟨by rw [HR2.out]; simp, HB.out⟩
              · have HR2 : Aside0 ((r : Int) = (eb : Int) * 8388608 + q ∧ r < 2139095040) := ⟨by omega⟩
                have hb1 : decide ((255 : Int) ≤ (eb : Int) + 1) = false := by simp; omega
                have hb2 : decide ((q : Int) < 8388608) = false := by simp; omega
                clear hre hqq
                go_wp2
                go_ret
                exact ⟨by have := HR2.out; simp; omega, HB.out⟩
          · obtain ⟨Q, bq, hQ1, hQ2, hrQ, hQb, hrd⟩ := near_cases r k eb q rs hh g HRE.out HQ.out.1 HQ.out.2 h0 (HG.out.2.1 h0) HG.out.2.2 HQH.out
            have hk0 := kpos k h0
            have hk1 : decide ((0 : Int) < (k : Int)) = true := by simp; omega
            have HRQ := Aside0.mk (And.intro hQ1 (And.intro hQ2 (And.intro hrQ hQb)))
            have hq := HQH.out
            clear HG HRE HQ HQH h0 hQ1 hQ2 hrQ hQb
            go_upto_region 15 with (fail)
            go_cut [85] (fun v85 wd => v85 = .bool bq ∧ Aside0 (Below w.heap.size w wd))
            case first =>
              clear HRQ
              rcases hrd with ⟨h1, rfl⟩ | ⟨h1, rfl⟩ | ⟨rfl, h2, rfl⟩ | ⟨rfl, h2, rfl⟩
              · have t1 : decide ((hh : Int) < (rs : Int)) = false := by first | (simp; done) | (simp; omega)
                have t2 : ((rs : Int) == (hh : Int)) = false := by simp; omega
                go_wp2
                go_meet
                case rel => exact ⟨by first | rfl | (simp; done) | (simp; omega), HB⟩
              · have t1 : decide ((hh : Int) < (rs : Int)) = true := by first | (simp; done) | (simp; omega)
                go_wp2
                go_meet
                case rel => exact ⟨by first | rfl | (simp; done) | (simp; omega), HB⟩
              · have t1 : decide ((rs : Int) < (rs : Int)) = false := by first | (simp; done) | (simp; omega)
                have t2 : ((rs : Int) == (rs : Int)) = true := by simp
                have t3 : ((q : Int) % 2 == 1) = true := by simp; omega
                go_wp2
                go_meet
                case rel => exact ⟨by first | rfl | (simp; done) | (simp; omega), HB⟩
              · have t1 : decide ((rs : Int) < (rs : Int)) = false := by first | (simp; done) | (simp; omega)
                have t2 : ((rs : Int) == (rs : Int)) = true := by simp
                have t3 : ((q : Int) % 2 == 1) = false := by simp; omega
                go_wp2
                go_meet
                case rel => exact ⟨by first | rfl | (simp; done) | (simp; omega), HB⟩
            case rest =>
              clear hrd HB
              obtain ⟨rfl, HB⟩ := hcut
              cases bq with
              | false =>
                obtain ⟨hQ1, hQ2, hrQ, hQb⟩ := HRQ.out
                obtain rfl : Q = q := by simpa using hQb
                clear HRQ hQb
                have t4 : ((Q : Int) == 16777216) = false := by simp; omega
                have t6 : decide ((Q : Int) < 8388608) = false := by simp; omega
                by_cases h3 : 255 ≤ eb + 1 + k
                · have hr2 := fin_inf hrQ hQ1 h3
                  have t5 : decide ((255 : Int) ≤ (eb : Int) + 1 + (k : Int)) = true := by simp; omega
                  clear hrQ hQ1 hQ2
                  go_wp2
                  go_ret
                  exact ⟨by rw [hr2.out]; rfl, HB.out⟩
                · have hr2 := fin_norm hrQ hq h3
                  have t5 : decide ((255 : Int) ≤ (eb : Int) + 1 + (k : Int)) = false := by simp; omega
                  clear hrQ hQ1 hQ2
                  go_wp2
                  go_ret
                  exact ⟨by have := hr2.out; simp; omega, HB.out⟩
              | true =>
                obtain ⟨hQ1, hQ2, hrQ, hQb⟩ := HRQ.out
                obtain rfl : Q = q + 1 := by simpa using hQb
                clear HRQ hQb
                by_cases h4 : q = 16777215
                · subst h4
                  by_cases h3 : 255 ≤ eb + 1 + (k + 1)
                  · have hr2 := fin_infT hrQ h3
                    have t5 : decide ((255 : Int) ≤ (eb : Int) + 1 + ((k : Int) + 1)) = true := by simp; omega
                    clear hrQ hQ1 hQ2
                    go_wp2
                    go_ret
                    exact ⟨by rw [hr2.out]; rfl, HB.out⟩
                  · have hr2 := fin_normT hrQ h3
                    have t5 : decide ((255 : Int) ≤ (eb : Int) + 1 + ((k : Int) + 1)) = false := by simp; omega
                    clear hrQ hQ1 hQ2
                    go_wp2
                    go_ret
                    exact ⟨by have := hr2.out; simp; omega, HB.out⟩
                · have t4 : ((q : Int) + 1 == 16777216) = false := by simp; omega
                  have t6 : decide ((q : Int) + 1 < 8388608) = false := by simp; omega
                  by_cases h3 : 255 ≤ eb + 1 + k
                  · have hr2 := fin_inf hrQ hQ1 h3
                    have t5 : decide ((255 : Int) ≤ (eb : Int) + 1 + (k : Int)) = true := by simp; omega
                    clear hrQ hQ1 hQ2
                    go_wp2
                    go_ret
                    exact ⟨by rw [hr2.out]; rfl, HB.out⟩
                  · have hr2 := fin_norm hrQ (qlt hq h4) h3
                    have t5 : decide ((255 : Int) ≤ (eb : Int) + 1 + (k : Int)) = false := by simp; omega
                    clear hrQ hQ1 hQ2
                    go_wp2
                    go_ret
                    exact ⟨by have := hr2.out; simp; omega, HB.out⟩
  all_goals
    have HX := Aside0.mk hcx
    have HY := Aside0.mk hcy
    clear hcx hcy
    go_enter Try.func19, Try.ntmps19
    go_wp2_with fail
    refine (counts_v x _ hx HX.out _).mono ?_
    rintro e w' ⟨rfl, rfl⟩
    go_wp2_with fail
    refine (counts_v y _ hy HY.out _).mono ?_
    rintro e w' ⟨rfl, rfl⟩
    go_wp2_with fail
    refine (counts_v x _ hx HX.out _).mono ?_
    rintro e w' ⟨rfl, rfl⟩
    go_wp2_with fail
    refine (counts_v y _ hy HY.out _).mono ?_
    rintro e w' ⟨rfl, rfl⟩
    go_wp2_with fail
    refine (parts_calls _ ha _ rfl _).mono ?_
    rintro e w' ⟨rfl, rfl⟩
    go_wp2_with fail
    refine (parts_calls _ hb _ rfl _).mono ?_
    rintro e w' ⟨rfl, rfl⟩
    go_wp2_with fail
    rw [HS.out]
    go_loop [12] (fun v => ∃ k : Nat, k ≤ sh ∧ v = .int .i64 k) (fun v => sh - (intOf v).toNat)
    case atStart => exact ⟨0, by omega, rfl⟩
    case round =>
      obtain ⟨k, hk, rfl⟩ := hrel
      by_cases hlt : k < sh
      · have hge := HF.out k hlt
        clear HF HE
        generalize Math.sm a b = z at *
        go_wp2
        go_round
        case measure => simp [intOf]; omega
        case rel => exact ⟨k + 1, by omega, by go_num⟩
      · obtain rfl : k = sh := by omega
        have hge := HE.out
        obtain ⟨hq1, hq2, hrn⟩ := Math.rnd_near a b _ hab rfl
        rw [← HH.out] at hq1 hq2 hrn
        have hqh := Math.quo_hi (Math.sm a b)
        rw [← HH.out] at hqh
        have hre := HR.out.trans hrn
        clear HF HE HR HS HH HSB hrn
        generalize Math.sm a b = z at *
        go_wp2_with fail
        obtain ⟨q, rs, g, hh, hqe, hrse, hge', hhe⟩ : ∃ q rs g hh : Nat, q = z / 2 ^ k ∧ rs = z % 2 ^ k ∧ g = 2 ^ k ∧ hh = 2 ^ (k - 1) := ⟨_, _, _, _, rfl, rfl, rfl, rfl⟩
        have r59 : (z : Int) / 2 ^ k = (q : Int) := by rw [hqe, cast_div]
        have r62 : IntKind.i64.wrap (2 ^ k) = (g : Int) := by rw [hge']; exact pow_wrap k hsh
        have r63 : (z : Int).tmod (g : Int) = (rs : Int) := by rw [hge', hrse]; exact tmod_nat _ _
        have rg0 : ¬ (g : Int) = 0 := by have := Nat.two_pow_pos k; rw [hge']; omega
        have r64 : wrap64 (2 ^ k) = (g : Int) := by rw [hge']; exact pow_wrap2 k hsh
        have R := Aside0.mk (And.intro r59 (And.intro r62 (And.intro r63 (And.intro r64 rg0))))
        clear r59 r62 r63 r64 rg0
        have r68 : IntKind.i64.wrap (2 ^ (k - 1)) = (hh : Int) := by rw [hhe]; exact pow_wrap (k - 1) (by omega)
        have r69 : wrap64 (2 ^ (k - 1)) = (hh : Int) := by rw [hhe]; exact pow_wrap2 (k - 1) (by omega)
        rw [← hqe, ← hrse, ← hge'] at hre hq1 hq2
        rw [← hqe] at hqh
        have hg2 : k = 0 → g = 1 ∧ rs = 0 := fun h => by subst h; simp [hge', hrse, Nat.mod_one]
        have hg3 : ¬ k = 0 → g = 2 * hh := fun h => by rw [hge', hhe, ← Nat.pow_succ']; congr 1; omega
        have hgr : rs < g := by rw [hrse, hge']; exact Nat.mod_lt _ (Nat.two_pow_pos _)
        clear hqe hrse hge' hhe hge
        have HRE := Aside0.mk hre
        have HQ := Aside0.mk (And.intro hq1 hq2)
        have HG := Aside0.mk (And.intro hg2 (And.intro hg3 hgr))
        have HQH := Aside0.mk hqh
        clear hre hq1 hq2 hg2 hg3 hgr hqh
        go_cut [13, 14, 15] (fun v13 v14 v15 wc => v13 = .int .i64 q ∧ v14 = .int .i64 rs ∧ v15 = .int .i64 0 ∧ Aside0 (Below w.heap.size w wc))
        case first =>
          clear HRE HQ HG HQH r68 r69
          obtain ⟨r59, r62, r63, r64, rg0⟩ := R.out
          clear R HX HY hf hab ha hb hx hy hne
          have rgn : ¬ g = 0 := fun h => rg0 (by rw [h]; rfl)
          go_region
          all_goals go_wp2
          go_meet
          case rel => exact ⟨rfl, rfl, rfl, ⟨(Below.refl _ _).drew⟩⟩
        case rest =>
          obtain ⟨rfl, rfl, rfl, HB⟩ := hcut
          have he : Math.ex b < 300 := by omega
          clear R HX HY hf hab ha hx hy hne m1 m2 hb hlt e1
          generalize Math.ex b = eb at *
          by_cases h0 : k = 0
          · obtain ⟨rfl, rfl⟩ := HG.out.1 h0
            subst h0
            have hu : Math.up 1 q 0 = 0 := by unfold Math.up; rw [if_neg (by omega)]
            have hre := HRE.out
            have hqq := HQ.out
            rw [hu] at hre hqq
            have hqh := HQH.out
            clear HRE HQ HG HQH hu r68 r69
            have hne2 : ((q : Int) == 16777216) = false := by simp; omega
            by_cases h1 : 255 ≤ eb + 1
            · have hr2 : Hid (r = 2139095040) := by show r = 2139095040; omega
              have hb1 : decide ((255 : Int) ≤ (eb : Int) + 1) = true := by simp; omega
              clear hre hqq
              go_wp2
              go_ret
              exact ⟨by rw [hr2.out]; rfl, HB.out⟩
            · by_cases h2 : q < 8388608
              · have HR2 : Aside0 (r = q) := ⟨by have := hqq.2 h2; omega⟩
                have hb1 : decide ((255 : Int) ≤ (eb : Int) + 1) = false := by simp; omega
                have hb2 : decide ((q : Int) < 8388608) = true := by simp; omega
                clear hre hqq
                go_wp2
                go_ret
                exact ⟨by rw [HR2.out]; simp, HB.out⟩
              · have HR2 : Aside0 ((r : Int) = (eb : Int) * 8388608 + q ∧ r < 2139095040) := ⟨by omega⟩
                have hb1 : decide ((255 : Int) ≤ (eb : Int) + 1) = false := by simp; omega
                have hb2 : decide ((q : Int) < 8388608) = false := by simp; omega
                clear hre hqq
                go_wp2
                go_ret
                exact ⟨by have := HR2.out; simp; omega, HB.out⟩
          · obtain ⟨Q, bq, hQ1, hQ2, hrQ, hQb, hrd⟩ := near_cases r k eb q rs hh g HRE.out HQ.out.1 HQ.out.2 h0 (HG.out.2.1 h0) HG.out.2.2 HQH.out
            have hk0 := kpos k h0
            have hk1 : decide ((0 : Int) < (k : Int)) = true := by simp; omega
            have HRQ := Aside0.mk (And.intro hQ1 (And.intro hQ2 (And.intro hrQ hQb)))
            have hq := HQH.out
            clear HG HRE HQ HQH h0 hQ1 hQ2 hrQ hQb
            go_upto_region 15 with (fail)
            go_cut [85] (fun v85 wd => v85 = .bool bq ∧ Aside0 (Below w.heap.size w wd))
            case first =>
              clear HRQ
              rcases hrd with ⟨h1, rfl⟩ | ⟨h1, rfl⟩ | ⟨rfl, h2, rfl⟩ | ⟨rfl, h2, rfl⟩
              · have t1 : decide ((hh : Int) < (rs : Int)) = false := by first | (simp; done) | (simp; omega)
                have t2 : ((rs : Int) == (hh : Int)) = false := by simp; omega
                go_wp2
                go_meet
                case rel => exact ⟨by first | rfl | (simp; done) | (simp; omega), HB⟩
              · have t1 : decide ((hh : Int) < (rs : Int)) = true := by first | (simp; done) | (simp; omega)
                go_wp2
                go_meet
                case rel => exact ⟨by first | rfl | (simp; done) | (simp; omega), HB⟩
              · have t1 : decide ((rs : Int) < (rs : Int)) = false := by first | (simp; done) | (simp; omega)
                have t2 : ((rs : Int) == (rs : Int)) = true := by simp
                have t3 : ((q : Int) % 2 == 1) = true := by simp; omega
                go_wp2
                go_meet
                case rel => exact ⟨by first | rfl | (simp; done) | (simp; omega), HB⟩
              · have t1 : decide ((rs : Int) < (rs : Int)) = false := by first | (simp; done) | (simp; omega)
                have t2 : ((rs : Int) == (rs : Int)) = true := by simp
                have t3 : ((q : Int) % 2 == 1) = false := by simp; omega
                go_wp2
                go_meet
                case rel => exact ⟨by first | rfl | (simp; done) | (simp; omega), HB⟩
            case rest =>
              clear hrd HB
              obtain ⟨rfl, HB⟩ := hcut
              cases bq with
              | false =>
                obtain ⟨hQ1, hQ2, hrQ, hQb⟩ := HRQ.out
                obtain rfl : Q = q := by simpa using hQb
                clear HRQ hQb
                have t4 : ((Q : Int) == 16777216) = false := by simp; omega
                have t6 : decide ((Q : Int) < 8388608) = false := by simp; omega
                by_cases h3 : 255 ≤ eb + 1 + k
                · have hr2 := fin_inf hrQ hQ1 h3
                  have t5 : decide ((255 : Int) ≤ (eb : Int) + 1 + (k : Int)) = true := by simp; omega
                  clear hrQ hQ1 hQ2
                  go_wp2
                  go_ret
                  exact ⟨by rw [hr2.out]; rfl, HB.out⟩
                · have hr2 := fin_norm hrQ hq h3
                  have t5 : decide ((255 : Int) ≤ (eb : Int) + 1 + (k : Int)) = false := by simp; omega
                  clear hrQ hQ1 hQ2
                  go_wp2
                  go_ret
                  exact ⟨by have := hr2.out; simp; omega, HB.out⟩
              | true =>
                obtain ⟨hQ1, hQ2, hrQ, hQb⟩ := HRQ.out
                obtain rfl : Q = q + 1 := by simpa using hQb
                clear HRQ hQb
                by_cases h4 : q = 16777215
                · subst h4
                  by_cases h3 : 255 ≤ eb + 1 + (k + 1)
                  · have hr2 := fin_infT hrQ h3
                    have t5 : decide ((255 : Int) ≤ (eb : Int) + 1 + ((k : Int) + 1)) = true := by simp; omega
                    clear hrQ hQ1 hQ2
                    go_wp2
                    go_ret
                    exact ⟨by rw [hr2.out]; rfl, HB.out⟩
                  · have hr2 := fin_normT hrQ h3
                    have t5 : decide ((255 : Int) ≤ (eb : Int) + 1 + ((k : Int) + 1)) = false := by simp; omega
                    clear hrQ hQ1 hQ2
                    go_wp2
                    go_ret
                    exact ⟨by have := hr2.out; simp; omega, HB.out⟩
                · have t4 : ((q : Int) + 1 == 16777216) = false := by simp; omega
                  have t6 : decide ((q : Int) + 1 < 8388608) = false := by simp; omega
                  by_cases h3 : 255 ≤ eb + 1 + k
                  · have hr2 := fin_inf hrQ hQ1 h3
                    have t5 : decide ((255 : Int) ≤ (eb : Int) + 1 + (k : Int)) = true := by simp; omega
                    clear hrQ hQ1 hQ2
                    go_wp2
                    go_ret
                    exact ⟨by rw [hr2.out]; rfl, HB.out⟩
                  · have hr2 := fin_norm hrQ (qlt hq h4) h3
                    have t5 : decide ((255 : Int) ≤ (eb : Int) + 1 + (k : Int)) = false := by simp; omega
                    clear hrQ hQ1 hQ2
                    go_wp2
                    go_ret
                    exact ⟨by have := hr2.out; simp; omega, HB.out⟩

/-- the reference's Add: the words' sum -/
theorem add_calls (x y : Nat) (hx : x < 4294967296) (hy : y < 4294967296) (w : World) : Calls Try.prog 19 #[.int .u32 x, .int .u32 y] w fun e w' => e = .returned (.int .u32 (Math.addW x y)) ∧ Below w.heap.size w w' := by
  have h1 := Math.cnt_le x
  have h2 := Math.cnt_le y
  obtain ⟨a, b, hor, hab, hle, hr⟩ : ∃ a b, (Math.cnt x = a ∧ Math.cnt y = b ∧ b < a ∨ Math.cnt x = b ∧ Math.cnt y = a ∧ b < a ∨ Math.cnt x = a ∧ Math.cnt y = a ∧ a = b) ∧ b ≤ a ∧ a ≤ 2139095040 ∧
      (a = 2139095040 ∧ Math.addW x y = 2139095040 ∨ a < 2139095040 ∧ Math.addW x y = Math.rnd (Math.V a + Math.V b)) := by
    have hW : ∀ p q, Math.cnt x = p → Math.cnt y = q → (p = 2139095040 ∨ q = 2139095040) → Math.addW x y = 2139095040 := fun p q hp hq h => by unfold Math.addW; rw [hp, hq, if_pos h]
    have hV : ∀ p q, Math.cnt x = p → Math.cnt y = q → ¬ (p = 2139095040 ∨ q = 2139095040) → Math.addW x y = Math.rnd (Math.V p + Math.V q) := fun p q hp hq h => by unfold Math.addW; rw [hp, hq, if_neg h]
    rcases Nat.lt_trichotomy (Math.cnt x) (Math.cnt y) with h | h | h
    · refine ⟨_, _, .inr (.inl ⟨rfl, rfl, h⟩), by omega, h2, ?_⟩
      by_cases h3 : Math.cnt y = 2139095040
      · exact .inl ⟨h3, hW _ _ rfl rfl (.inr h3)⟩
      · exact .inr ⟨by omega, by rw [hV _ _ rfl rfl (by omega), Nat.add_comm]⟩
    · refine ⟨Math.cnt x, Math.cnt x, .inr (.inr ⟨rfl, h.symm, rfl⟩), by omega, h1, ?_⟩
      by_cases h3 : Math.cnt x = 2139095040
      · exact .inl ⟨h3, hW _ _ rfl rfl (.inl h3)⟩
      · exact .inr ⟨by omega, by rw [hV _ _ rfl rfl (by omega), h]⟩
    · refine ⟨_, _, .inl ⟨rfl, rfl, h⟩, by omega, h1, ?_⟩
      by_cases h3 : Math.cnt x = 2139095040
      · exact .inl ⟨h3, hW _ _ rfl rfl (.inl h3)⟩
      · exact .inr ⟨by omega, by rw [hV _ _ rfl rfl (by omega)]⟩
  rcases hr with ⟨ha, hr⟩ | ⟨ha, hr⟩
  · rw [hr]
    exact add_inf x y a b hx hy w hor ha
  · by_cases hf : Math.ex b + 26 ≤ Math.ex a
    · rw [hr, Math.rnd_far a b hf ha]
      exact add_far x y a b hx hy w hor ha hf
    · exact add_near x y a b hx hy w hor _ ha (by omega) (Math.ex_mono hab) hr
end Go.Proofs.Ytbmphjnaefliaaa.Radd
