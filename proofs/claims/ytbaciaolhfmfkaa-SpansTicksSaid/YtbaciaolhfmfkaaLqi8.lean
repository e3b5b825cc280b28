/- This text walks the law of every call over two sets (bramble/bramblelaw02.Tick), beside the reference. -/
import Derived.Test.YtbaciaolhfmfkaaLpi8
import Derived.Deep.DeepCutAuto
import Derived.Deep.CutBlock
import Derived.Deep.QuietTactic
import Derived.BigQuiet
namespace Go.Proofs.Ytbaciaolhfmfkaa.Si8
open Go.RowKit Go.Proofs.YtbaciaolhfmfkaaW.PrintWords Go.Proofs.YtbaciaolhfmfkaaW.PrintLast Go.Proofs.YtbaciaolhfmfkaaW.PrintMore Go.Proofs.Ytbaciaolhfmfkaa.Mp Go.Proofs.Ytbaciaolhfmfkaa.Ow Go.Proofs.Ytbaciaolhfmfkaa.Sp Go.Proofs.Ytbaciaolhfmfkaa.Rf Go.Proofs.Ytbaciaolhfmfkaa.Op Go.Proofs.Ytbaciaolhfmfkaa.PSpansBytes
set_option linter.unusedVariables false
set_option maxRecDepth 100000
/-- The calls that came in. -/
def Scr (w : World) (A : Option Addr) (len : Nat) (T : Nat → Rec) : Prop := ∀ i, i < len → ∃ a, A = some a ∧ w.cell? (a.add (i * 4)) = some (.int .i64 (T i).kind) ∧ w.cell? (a.add (i * 4 + 1)) = some (.bool (T i).second) ∧ w.cell? (a.add (i * 4 + 2)) = some (.int .i64 (T i).lo) ∧ w.cell? (a.add (i * 4 + 3)) = some (.int .i64 (T i).hi) ∧ (-9223372036854775808 ≤ (T i).lo ∧ (T i).lo ≤ 9223372036854775807) ∧ (-9223372036854775808 ≤ (T i).hi ∧ (T i).hi ≤ 9223372036854775807)
theorem cv_in (x : Int) (h : -9223372036854775808 ≤ x ∧ x ≤ 9223372036854775807) : tMin ≤ (IntKind.i8.wrap x) ∧ (IntKind.i8.wrap x) ≤ tMax := by
  unfold tMin tMax
  first
  | (have h1 : (IntKind.i8.wrap x) = (x + 128) % 256 - 128 := rfl
     rw [h1]
     omega)
  | (simp only [IntKind.wrap, IntKind.bits, IntKind.signed]
     simp
     split <;> omega)
theorem RV.of_row {w W : World} {N : Nat} {u : Value} {R : List Run} {S : Nat → Prop} (h : Kd.R k42 42 w N (fun _ => True) u (ofR R)) (K : Kp w W S) (hS : ∀ k, S k → k < N) : RV W u R := by
  have h2 := Kd.R_mono (ok' := fun _ => True) (Kd.R_step (Kd.R_bound h) (fun k hk hlt => K.keep k hlt (fun hs => by have h3 := hS k hs; have h4 := hk.2.1; omega))) (fun _ _ => trivial)
  obtain ⟨A', c', he⟩ := Kd.R_slice h2
  subst he
  have h3 := Kd.R_reads' h2
  exact ⟨A', c', rfl, h3.2.1, h3.2.2⟩
theorem pruns2 {w : World} {base : Nat} {v : Value} {R : List Run} {acts : List S98} (h : AV w base v acts) (hr : Rel tMin tMax R acts) (hl : acts.length ≤ 2199023255552) :
    Calls Try.prog 38 #[.agg #[v, .int .i64 tMax]] w fun e w' => ∃ u, e = .returned u ∧ Kd.R k42 42 w' w.heap.size (fun _ => True) u (ofR R) ∧ Kp w w' (fun _ => False) := by
  obtain ⟨A, c, he⟩ := Kd.R_slice h.row
  subst he
  have h2 := Kd.R_reads' h.row
  obtain ⟨K, hK⟩ := hr.runs (by unfold tMax; omega) (by unfold tMin; omega) hl
  refine (brambleref02_Runs.calls K A c acts tMax (ofR R) w h2.2.2 h2.2.1 (hK K (Nat.le_refl _))).mono ?_
  rintro e w' ⟨u, rfl, hR, hB⟩
  exact ⟨u, rfl, hR, Kp.of_below hB _⟩
/-- The other set made a clone of the set k, its reference a copy. -/
theorem Pl.cloned {w wr w2 : World} {sb rb k pk po q : Nat} {sk so vk vo sq : Value} {Rk Ro : List Run} {Ak Ao : List S98} (h : Pl w wr sb rb k pk po sk so vk vo Rk Ro Ak Ao) (hk : k ≤ 1) (hset : SetAt wr w.heap.size q sq Rk) (hq : q ≠ pk)
    (hW : (((wr.setCell ⟨sb, 1 - k, none⟩ (.pointer (some ⟨q, 0, none⟩))).setCell ⟨rb, (1 - k) * 2, none⟩ vk).setCell ⟨rb, (1 - k) * 2 + 1, none⟩ (.int .i64 tMax)) = w2) : Pl w w2 sb rb k pk q sk sq vk vk Rk Rk Ak Ak := by
  have K : Kp wr w2 (fun p => p = sb ∨ p = rb) := by
    rw [← hW]
    exact (((kp_put (g := sb) (i := 1 - k) _).mono (fun _ h => .inl h)).then_ (kp_put (g := rb) (i := (1 - k) * 2) _) (fun _ h => .inl (.inr h))).then_ (kp_put (g := rb) (i := (1 - k) * 2 + 1) _) (fun _ h => .inl (.inr h))
  have h98 : ∀ p, (p = sb ∨ p = rb) → ∃ cells t, wr.heap[p]? = some (.cells cells t (0, 0)) ∧ t ≠ 98 := by
    rintro p (rfl | rfl)
    · exact ⟨_, _, h.sets, by decide⟩
    · exact ⟨_, _, h.refs, by decide⟩
  have hsr : sb ≠ rb := blk_ne h.sets h.refs (by decide)
  have ho : ∀ {p : Nat} {s : Value} {R : List Run}, SetAt wr w.heap.size p s R → SetAt w2 w.heap.size p s R := fun hs =>
    hs.kept K (by
      rintro (e | e)
      · exact blk_ne hs.head h.sets (by decide) e
      · exact blk_ne hs.head h.refs (by decide) e) (by
      rintro b hb (e | e)
      · exact row_type_ne hs.own h.sets (by decide) (by rw [← e]; exact hb)
      · exact row_type_ne hs.own h.refs (by decide) (by rw [← e]; exact hb))
  refine ⟨?_, ?_, ho h.setk, ho hset, h.avk.kept K h98, h.avk.kept K h98, hq.symm, h.sbb, h.rbb, h.kept.then_ K (fun p hp => .inr (by have := h.rbb; have := h.sbb; rcases hp with rfl | rfl <;> omega))⟩
  · have hk2 : k = 0 ∨ k = 1 := by omega
    rcases hk2 with rfl | rfl
    · rw [← hW]
      exact blk_far (blk_far (blk_put h.sets 1 _ rfl) (p := ⟨rb, 2, none⟩) hsr _) (p := ⟨rb, 3, none⟩) hsr _
    · rw [← hW]
      exact blk_far (blk_far (blk_put h.sets 0 _ rfl) (p := ⟨rb, 0, none⟩) hsr _) (p := ⟨rb, 1, none⟩) hsr _
  · have hk2 : k = 0 ∨ k = 1 := by omega
    rcases hk2 with rfl | rfl
    · rw [← hW]
      exact blk_put (blk_put (blk_far h.refs (p := ⟨sb, 1, none⟩) (Ne.symm hsr) _) 2 vk rfl) 3 _ rfl
    · rw [← hW]
      exact blk_put (blk_put (blk_far h.refs (p := ⟨sb, 0, none⟩) (Ne.symm hsr) _) 0 vk rfl) 1 _ rfl
/-- Acts that put runs in. -/
def tru (L : List Run) : List S98 := L.map (fun r => ⟨true, r.1, r.2⟩)
theorem tru_len (Ak : List S98) (L : List Run) {i : Nat} (hi : i ≤ L.length) : (Ak ++ tru (L.take i)).length = Ak.length + i := by
  rw [List.length_append, tru, List.length_map, List.length_take, Nat.min_eq_left hi]
theorem tru_snoc (Ak : List S98) (L : List Run) {i : Nat} (hi : i < L.length) : (Ak ++ tru (L.take i)) ++ [⟨true, L[i].1, L[i].2⟩] = Ak ++ tru (L.take (i + 1)) := by
  rw [List.append_assoc, List.take_succ_eq_append_getElem hi]
  unfold tru
  rw [List.map_append]
  rfl
theorem hasL_tru : ∀ (L : List Run) (acts : List S98) (x : Int), hasL (acts ++ tru L) x = true ↔ hasL acts x = true ∨ mem L x
  | [], acts, x => by simp [tru, mem_nil]
  | r :: L, acts, x => by
    have e : acts ++ tru (r :: L) = (acts ++ [⟨true, r.1, r.2⟩]) ++ tru L := by simp [tru]
    rw [e, hasL_tru L, hasL_snoc, mem_cons]
    by_cases hc : covers ⟨true, r.1, r.2⟩ x
    · rw [if_pos hc]
      have hc2 : r.1 ≤ x ∧ x ≤ r.2 := hc
      constructor
      · intro _; exact .inr (.inl hc2)
      · intro _; exact .inl rfl
    · rw [if_neg hc]
      have hc2 : ¬ (r.1 ≤ x ∧ x ≤ r.2) := hc
      constructor
      · rintro (h | h)
        · exact .inl h
        · exact .inr (.inr h)
      · rintro (h | h | h)
        · exact .inl h
        · exact absurd h hc2
        · exact .inr h
theorem Rel.joined {mn most : Int} {R T R2 : List Run} {acts : List S98} (h : Rel mn most R acts) (hT : Sp.Good mn most T) (hg : Sp.Good mn most R2) (hm : ∀ y, mem R2 y ↔ mem R y ∨ mem T y) : Rel mn most R2 (acts ++ tru T) := by
  refine ⟨hg, fun x => ?_, fun a ha => ?_⟩
  · rw [hm x, h.mem x, hasL_tru]
    constructor
    · rintro (⟨h1, h2⟩ | h1)
      · exact ⟨.inl h1, h2⟩
      · obtain ⟨r, hr, h3, h4⟩ := h1
        have h5 := hT.ok r hr
        exact ⟨.inr ⟨r, hr, h3, h4⟩, by omega⟩
    · rintro ⟨h1 | h1, h2⟩
      · exact .inl ⟨h1, h2⟩
      · exact .inr h1
  · rcases List.mem_append.1 ha with h1 | h1
    · exact h.fits a h1
    · obtain ⟨r, hr, rfl⟩ := List.mem_map.1 h1
      have h5 := hT.ok r hr
      exact ⟨h5.1, h5.2.2⟩
/-- Behind a call, seen from set k. -/
def Hn (w wx : World) (sb k pk n : Nat) : Prop := ∃ po sk so vk vo Rk Ro Ak Ao, Pl w wx sb (sb + 1) k pk po sk so vk vo Rk Ro Ak Ao ∧ Pr Rk Ro Ak Ao (n + 1)
/-- At the loop's head. -/
def Hd (w wr : World) (sb rb n : Nat) : Prop := ∃ p0 p1 s0 s1 v0 v1 R0 R1 A0 A1, Pl w wr sb rb 0 p0 p1 s0 s1 v0 v1 R0 R1 A0 A1 ∧ Pr R0 R1 A0 A1 n
/-- The same seen from set k. -/
def Hk (w wr : World) (sb rb k n : Nat) : Prop := ∃ p0 p1 s0 s1 v0 v1 R0 R1 A0 A1, Pl w wr sb rb k p0 p1 s0 s1 v0 v1 R0 R1 A0 A1 ∧ Pr R0 R1 A0 A1 n
theorem Hd.to {w wr : World} {sb rb n k : Nat} (h : Hd w wr sb rb n) (hk : k ≤ 1) : Hk w wr sb rb k n := by
  obtain ⟨p0, p1, s0, s1, v0, v1, R0, R1, A0, A1, h1, h2⟩ := h
  have hk2 : k = 0 ∨ k = 1 := by omega
  rcases hk2 with rfl | rfl
  · exact ⟨_, _, _, _, _, _, _, _, _, _, h1, h2⟩
  · exact ⟨_, _, _, _, _, _, _, _, _, _, h1.swap, h2.swap⟩
theorem Hk.to {w wr : World} {sb rb n k : Nat} (h : Hk w wr sb rb k n) (hk : k ≤ 1) : Hd w wr sb rb n := by
  obtain ⟨p0, p1, s0, s1, v0, v1, R0, R1, A0, A1, h1, h2⟩ := h
  have hk2 : k = 0 ∨ k = 1 := by omega
  rcases hk2 with rfl | rfl
  · exact ⟨_, _, _, _, _, _, _, _, _, _, h1, h2⟩
  · exact ⟨_, _, _, _, _, _, _, _, _, _, h1.back, h2.swap⟩
theorem rel0 : Rel tMin tMax [] [] := ⟨good_nil, fun x => ⟨fun h => absurd h (mem_nil _), fun h => by cases h.1⟩, fun a h => by cases h⟩
theorem start {w w2 : World} {p0 p1 b0 b1 : Nat} (h0 : SetAt w2 b0 p0 (.slice none 0 0) []) (h1 : SetAt w2 b1 p1 (.slice none 0 0) []) (hb0 : w.heap.size ≤ b0) (hb1 : w.heap.size ≤ b1) (hne : p0 ≠ p1) (K : Kp w w2 (fun _ => False)) :
    Hd w ((w2.alloc (.cells #[.pointer (some ⟨p0, 0, none⟩), .pointer (some ⟨p1, 0, none⟩)] 78)).alloc (.cells #[.slice none 0 0, .int .i64 tMax, .slice none 0 0, .int .i64 tMax] 68)) w2.heap.size (w2.heap.size + 1) 0 := by
  have K2 : Kp w2 ((w2.alloc (.cells #[.pointer (some ⟨p0, 0, none⟩), .pointer (some ⟨p1, 0, none⟩)] 78)).alloc (.cells #[.slice none 0 0, .int .i64 tMax, .slice none 0 0, .int .i64 tMax] 68)) (fun _ => False) := ((Kp.refl _ _).alloc _).alloc _
  have e1 := heap_alloc_new w2 (.cells #[.pointer (some ⟨p0, 0, none⟩), .pointer (some ⟨p1, 0, none⟩)] 78)
  have e2 := heap_alloc_new (w2.alloc (.cells #[.pointer (some ⟨p0, 0, none⟩), .pointer (some ⟨p1, 0, none⟩)] 78)) (.cells #[.slice none 0 0, .int .i64 tMax, .slice none 0 0, .int .i64 tMax] 68)
  rw [show (w2.alloc (.cells #[.pointer (some ⟨p0, 0, none⟩), .pointer (some ⟨p1, 0, none⟩)] 78)).heap.size = w2.heap.size + 1 by simp] at e2
  have h0' := h0.stay K2
  have h1' := h1.stay K2
  refine ⟨p0, p1, _, _, _, _, [], [], [], [], ⟨((MapKept.heap_alloc _ _).2 _ (by simp)).trans e1, e2, ⟨h0'.head, row_lower h0'.own hb0, h0'.good, Nat.le_trans hb0 h0'.pbase⟩, ⟨h1'.head, row_lower h1'.own hb1, h1'.good, Nat.le_trans hb1 h1'.pbase⟩, ⟨Kd.R_nil _ _ _ _ _⟩, ⟨Kd.R_nil _ _ _ _ _⟩, hne, K.size, by have := K.size; omega, K.then_ K2 (fun _ h => .inl h)⟩, ⟨rel0, rel0, by simp, by simp⟩⟩
set_option maxHeartbeats 8000000 in
theorem plays_calls (A : Option Addr) (len cap : Nat) (T : Nat → Rec) (w : World) (hs : Scr w A len T) (hl : len ≤ 9223372036854775807) :
    Calls Try.prog 24 #[.slice A len cap, .int .i64 tMax] w fun e w' => e = .returned (.bool true) ∧ Kp w w' (fun _ => False) := by
  have HSC := Aside0.mk hs
  clear hs
  go_enter Try.func24, Try.ntmps24
  go_wp2_with fail
  refine (new_calls w).mono ?_
  rintro e w1 ⟨rfl, h1, k1⟩
  have HA := Aside0.mk (And.intro h1 k1)
  clear h1 k1
  go_wp2_with fail
  refine (new_calls w1).mono ?_
  rintro e w2 ⟨rfl, h2, k2⟩
  have hp : w.heap.size ≠ w1.heap.size := by have := blk_lt HA.out.1.head; omega
  have HH := Aside0.mk (start (w := w) (HA.out.1.stay k2) h2 (Nat.le_refl _) HA.out.2.size hp (HA.out.2.then_ k2 (fun _ h => .inl h)))
  have hsb : w.heap.size ≤ w2.heap.size := (HA.out.2.then_ k2 (fun _ h => .inl h)).size
  clear h2 k2 HA hp
  go_wp2_with fail
  obtain ⟨sb, hsb2⟩ : ∃ sb, w2.heap.size = sb := ⟨_, rfl⟩
  rw [hsb2] at HH hsb ⊢
  clear hsb2
  go_loopg [7] 40 (fun g iv wr => ∃ n : Nat, n ≤ len ∧ n ≤ 40 ∧ g = 40 - n ∧ iv = .int .i64 n ∧ Aside0 (Hd w wr sb (sb + 1) n)) 
  case atStart => exact ⟨0, by omega, by omega, rfl, rfl, HH⟩
  case round =>
    clear HH
    obtain ⟨n, hn, hn4, hgn, rfl, HH⟩ := hrel
    by_cases hlt : n < len ∧ n < 40
    · obtain ⟨hlt, hlt4⟩ := hlt
      as_aux_lemma =>
        have hk0 : Kp w wr (fun _ => False) := by obtain ⟨_, _, _, _, _, _, _, _, _, _, h, _⟩ := HH.out; exact h.kept
        obtain ⟨ad, rfl, t0, t1, t2, t3, u1, u2⟩ := HSC.out n hlt
        have t0 := cell_kp t0 hk0 (fun h => h)
        have t1 := cell_kp t1 hk0 (fun h => h)
        have t2 := cell_kp t2 hk0 (fun h => h)
        have t3 := cell_kp t3 hk0 (fun h => h)
        rw [Ow.add_field _ _ 1 (by omega)] at t1
        rw [Ow.add_field _ _ 2 (by omega)] at t2
        rw [Ow.add_field _ _ 3 (by omega)] at t3
        generalize (T n).kind = kd at *
        generalize (T n).second = sc at *
        generalize (T n).lo = lo at *
        generalize (T n).hi = hi at *
        have LO := Aside0.mk u1
        have HI := Aside0.mk u2
        have n0 : (0 : Int) ≤ (n : Int) := by omega
        have n1 : (n : Int) < (len : Int) := by omega
        have n40 : (n : Int) < 40 := by omega
        clear hk0 u1 u2
        go_upto_if 49 with fail
        obtain ⟨ob, hob⟩ : ∃ ob, wr.heap.size = ob := ⟨_, rfl⟩
        obtain ⟨W1, hW1⟩ : ∃ W1, wr.alloc (.cells #[.int .i64 kd, .bool sc, .int .i64 lo, .int .i64 hi] 44) = W1 := ⟨_, rfl⟩
        have kW : Kp wr W1 (fun _ => False) := by rw [← hW1]; exact (Kp.refl _ _).alloc _
        have hbx : W1.heap[ob]? = some (.cells #[.int .i64 kd, .bool sc, .int .i64 lo, .int .i64 hi] 44 (0, 0)) := by rw [← hW1, ← hob]; exact heap_alloc_new _ _
        have HBX := Aside0.mk hbx
        have HHW : Aside0 (∀ k, k ≤ 1 → Hk w W1 sb (sb + 1) k n) := ⟨fun k hk => by
          obtain ⟨p0, p1, s0, s1, v0, v1, R0, R1, A0, A1, h1, h2⟩ := HH.out.to hk
          exact ⟨p0, p1, s0, s1, v0, v1, R0, R1, A0, A1, h1.stay kW, h2⟩⟩
        rw [hob, hW1]
        clear kW hbx HH hob hW1 t0 t1 t2 t3
        as_aux_lemma =>
          go_cut [9] from 34 to 316 (fun kv wx => ∃ k : Nat, k ≤ 1 ∧ kv = .int .i64 k ∧ W1 = wx)
          case first =>
            cases sc with
            | true => go_wp2; go_meet; exact ⟨1, by omega, rfl, rfl⟩
            | false => go_wp2; go_meet; exact ⟨0, by omega, rfl, rfl⟩
          case rest =>
            obtain ⟨k, hk, rfl, rfl⟩ := hcut
            obtain ⟨pk, po, sk, so, vk, vo, Rk, Ro, Ak, Ao, hPl, hPr⟩ := HHW.out k hk
            obtain ⟨Av, cv, evk⟩ := Kd.R_slice hPl.avk.row
            obtain ⟨Aq, cq, evo⟩ := Kd.R_slice hPl.avo.row
            subst evk evo
            have HP := Aside0.mk hPl
            have HR := Aside0.mk hPr
            have hc := hPl.cells hk
            obtain ⟨c0, c1, c2, c3, c4, c5⟩ := hc
            have z0 : (0 : Int) ≤ (k : Int) := by omega
            have z1 : (k : Int) < 2 := by omega
            have z2 : (0 : Int) ≤ 1 - (k : Int) := by omega
            have z3 : 1 - (k : Int) < 2 := by omega
            have z4 : (k : Int) ≤ 1 := by omega
            have z5 : IntKind.i64.wrap (1 - (k : Int)) = 1 - (k : Int) := IntWalk.i64_in _ (by omega)
            have W1lt := Aside0.mk hPl.kept.size
            have HOB : Aside0 (ob < W1.heap.size) := ⟨blk_lt HBX.out⟩
            clear hPl hPr HHW
            as_aux_lemma =>
              go_upto_region 10 with fail
              as_aux_lemma =>
                refine wp_region_noPanic ?_
                refine start_ (n := 24) (S := fun w' => Kp W1 w' (fun _ => False)) (ds := []) #[false, false, false, false, false, false, false, false, false, false, false, false, false, false, false, false, false, false, false, false, false, false, false, false] (by kernel_rfl) rfl rfl ((Kp.refl _ _).drew) (fun hHeld => ?_)
                refine pure_ (i := 0) (N := (some 50)) (v := ?_) (a' := ?_) #[true, false, false, false, false, false, false, false, false, false, false, false, false, false, false, false, false, false, false, false, false, false, false, false] rfl rfl (by kernel_rfl) (fun _ _ _ h => h) (Or.inl ⟨by rfl, ?_⟩) ?_ ?_
                rotate_left
                · intro w'
                  go_simp
                  with_reducible rfl
                rotate_left
                · simp only [Act.put, List.setIfInBounds_toArray, List.set_cons_zero, List.set_cons_succ]
                  rfl
                refine pure_ (i := 1) (N := (some 51)) (v := ?_) (a' := ?_) #[true, true, false, false, false, false, false, false, false, false, false, false, false, false, false, false, false, false, false, false, false, false, false, false] rfl rfl (by kernel_rfl) (fun _ _ _ h => h) (Or.inl ⟨by rfl, ?_⟩) ?_ ?_
                rotate_left
                · intro w'
                  go_simp
                  with_reducible rfl
                rotate_left
                · simp only [Act.put, List.setIfInBounds_toArray, List.set_cons_zero, List.set_cons_succ]
                  rfl
                refine pure_ (i := 2) (N := (some 52)) (v := ?_) (a' := ?_) #[true, true, true, false, false, false, false, false, false, false, false, false, false, false, false, false, false, false, false, false, false, false, false, false] rfl rfl (by kernel_rfl) (fun _ _ _ h => h) (Or.inl ⟨by rfl, ?_⟩) ?_ ?_
                rotate_left
                · intro w'
                  go_simp
                  with_reducible rfl
                rotate_left
                · simp only [Act.put, List.setIfInBounds_toArray, List.set_cons_zero, List.set_cons_succ]
                  rfl
                refine pure_ (i := 4) (N := (some 54)) (v := ?_) (a' := ?_) #[true, true, true, false, true, false, false, false, false, false, false, false, false, false, false, false, false, false, false, false, false, false, false, false] rfl rfl (by kernel_rfl) (fun _ _ _ h => h) (Or.inl ⟨by rfl, ?_⟩) ?_ ?_
                rotate_left
                · intro w'
                  go_simp
                  with_reducible rfl
                rotate_left
                · simp only [Act.put, List.setIfInBounds_toArray, List.set_cons_zero, List.set_cons_succ]
                  rfl
                refine pure_ (i := 5) (N := (some 55)) (v := ?_) (a' := ?_) #[true, true, true, false, true, true, false, false, false, false, false, false, false, false, false, false, false, false, false, false, false, false, false, false] rfl rfl (by kernel_rfl) (fun _ _ _ h => h) (Or.inl ⟨by rfl, ?_⟩) ?_ ?_
                rotate_left
                · intro w'
                  go_simp
                  with_reducible rfl
                rotate_left
                · simp only [Act.put, List.setIfInBounds_toArray, List.set_cons_zero, List.set_cons_succ]
                  rfl
                refine pure_ (i := 6) (N := (some 56)) (v := ?_) (a' := ?_) #[true, true, true, false, true, true, true, false, false, false, false, false, false, false, false, false, false, false, false, false, false, false, false, false] rfl rfl (by kernel_rfl) (fun _ _ _ h => h) (Or.inl ⟨by rfl, ?_⟩) ?_ ?_
                rotate_left
                · intro w'
                  go_simp
                  with_reducible rfl
                rotate_left
                · simp only [Act.put, List.setIfInBounds_toArray, List.set_cons_zero, List.set_cons_succ]
                  rfl
                refine pure_ (i := 7) (N := (some 57)) (v := ?_) (a' := ?_) #[true, true, true, false, true, true, true, true, false, false, false, false, false, false, false, false, false, false, false, false, false, false, false, false] rfl rfl (by kernel_rfl) (fun _ _ _ h => h) (Or.inl ⟨by rfl, ?_⟩) ?_ ?_
                rotate_left
                · intro w'
                  go_simp
                  with_reducible rfl
                rotate_left
                · simp only [Act.put, List.setIfInBounds_toArray, List.set_cons_zero, List.set_cons_succ]
                  rfl
                refine pure_ (i := 9) (N := (some 59)) (v := ?_) (a' := ?_) #[true, true, true, false, true, true, true, true, false, true, false, false, false, false, false, false, false, false, false, false, false, false, false, false] rfl rfl (by kernel_rfl) (fun _ _ _ h => h) (Or.inl ⟨by rfl, ?_⟩) ?_ ?_
                rotate_left
                · intro w'
                  go_simp
                  with_reducible rfl
                rotate_left
                · simp only [Act.put, List.setIfInBounds_toArray, List.set_cons_zero, List.set_cons_succ]
                  rfl
                refine pure_ (i := 10) (N := (some 60)) (v := ?_) (a' := ?_) #[true, true, true, false, true, true, true, true, false, true, true, false, false, false, false, false, false, false, false, false, false, false, false, false] rfl rfl (by kernel_rfl) (fun _ _ _ h => h) (Or.inl ⟨by rfl, ?_⟩) ?_ ?_
                rotate_left
                · intro w'
                  go_simp
                  with_reducible rfl
                rotate_left
                · simp only [Act.put, List.setIfInBounds_toArray, List.set_cons_zero, List.set_cons_succ]
                  rfl
                refine pure_ (i := 11) (N := (some 61)) (v := ?_) (a' := ?_) #[true, true, true, false, true, true, true, true, false, true, true, true, false, false, false, false, false, false, false, false, false, false, false, false] rfl rfl (by kernel_rfl) (fun _ _ _ h => h) (Or.inl ⟨by rfl, ?_⟩) ?_ ?_
                rotate_left
                · intro w'
                  go_simp
                  with_reducible rfl
                rotate_left
                · simp only [Act.put, List.setIfInBounds_toArray, List.set_cons_zero, List.set_cons_succ]
                  rfl
                refine pure_ (i := 13) (N := (some 63)) (v := ?_) (a' := ?_) #[true, true, true, false, true, true, true, true, false, true, true, true, false, true, false, false, false, false, false, false, false, false, false, false] rfl rfl (by kernel_rfl) (fun _ _ _ h => h) (Or.inl ⟨by rfl, ?_⟩) ?_ ?_
                rotate_left
                · intro w'
                  go_simp
                  with_reducible rfl
                rotate_left
                · simp only [Act.put, List.setIfInBounds_toArray, List.set_cons_zero, List.set_cons_succ]
                  rfl
                refine pure_ (i := 14) (N := (some 64)) (v := ?_) (a' := ?_) #[true, true, true, false, true, true, true, true, false, true, true, true, false, true, true, false, false, false, false, false, false, false, false, false] rfl rfl (by kernel_rfl) (fun _ _ _ h => h) (Or.inl ⟨by rfl, ?_⟩) ?_ ?_
                rotate_left
                · intro w'
                  go_simp
                  with_reducible rfl
                rotate_left
                · simp only [Act.put, List.setIfInBounds_toArray, List.set_cons_zero, List.set_cons_succ]
                  rfl
                refine pure_ (i := 15) (N := (some 65)) (v := ?_) (a' := ?_) #[true, true, true, false, true, true, true, true, false, true, true, true, false, true, true, true, false, false, false, false, false, false, false, false] rfl rfl (by kernel_rfl) (fun _ _ _ h => h) (Or.inl ⟨by rfl, ?_⟩) ?_ ?_
                rotate_left
                · intro w'
                  go_simp
                  with_reducible rfl
                rotate_left
                · simp only [Act.put, List.setIfInBounds_toArray, List.set_cons_zero, List.set_cons_succ]
                  rfl
                refine pure_ (i := 16) (N := (some 66)) (v := ?_) (a' := ?_) #[true, true, true, false, true, true, true, true, false, true, true, true, false, true, true, true, true, false, false, false, false, false, false, false] rfl rfl (by kernel_rfl) (fun _ _ _ h => h) (Or.inl ⟨by rfl, ?_⟩) ?_ ?_
                rotate_left
                · intro w'
                  go_simp
                  with_reducible rfl
                rotate_left
                · simp only [Act.put, List.setIfInBounds_toArray, List.set_cons_zero, List.set_cons_succ]
                  rfl
                refine take_ (i := 3) (N := (some 53)) (v := ?_) (a' := ?_) #[true, true, true, true, true, true, true, true, false, true, true, true, false, true, true, true, true, false, false, false, false, false, false, false] rfl rfl (by kernel_rfl) (fun _ _ _ h => h) (Or.inl ⟨by rfl, ?_⟩) hHeld ?_ ?_
                rotate_left
                · intro w' hK
                  have s0 := cell_kp c0 hK (fun h => h)
                  go_simp
                  with_reducible rfl
                rotate_left
                · simp only [Act.put, List.setIfInBounds_toArray, List.set_cons_zero, List.set_cons_succ]
                  rfl
                refine take_ (i := 8) (N := (some 58)) (v := ?_) (a' := ?_) #[true, true, true, true, true, true, true, true, true, true, true, true, false, true, true, true, true, false, false, false, false, false, false, false] rfl rfl (by kernel_rfl) (fun _ _ _ h => h) (Or.inl ⟨by rfl, ?_⟩) hHeld ?_ ?_
                rotate_left
                · intro w' hK
                  have s0 := cell_kp c1 hK (fun h => h)
                  go_simp
                  with_reducible rfl
                rotate_left
                · simp only [Act.put, List.setIfInBounds_toArray, List.set_cons_zero, List.set_cons_succ]
                  rfl
                refine take_ (i := 12) (N := (some 62)) (v := ?_) (a' := ?_) #[true, true, true, true, true, true, true, true, true, true, true, true, true, true, true, true, true, false, false, false, false, false, false, false] rfl rfl (by kernel_rfl) (fun _ _ _ h => h) (Or.inl ⟨by rfl, ?_⟩) hHeld ?_ ?_
                rotate_left
                · intro w' hK
                  have s0 := cell_kp c2 hK (fun h => h)
                  have s1 := cell_kp c3 hK (fun h => h)
                  go_simp
                  with_reducible rfl
                rotate_left
                · simp only [Act.put, List.setIfInBounds_toArray, List.set_cons_zero, List.set_cons_succ]
                  rfl
                refine take_ (i := 17) (N := (some 67)) (v := ?_) (a' := ?_) #[true, true, true, true, true, true, true, true, true, true, true, true, true, true, true, true, true, true, false, false, false, false, false, false] rfl rfl (by kernel_rfl) (fun _ _ _ h => h) (Or.inl ⟨by rfl, ?_⟩) hHeld ?_ ?_
                rotate_left
                · intro w' hK
                  have s0 := cell_kp c4 hK (fun h => h)
                  have s1 := cell_kp c5 hK (fun h => h)
                  go_simp
                  with_reducible rfl
                rotate_left
                · simp only [Act.put, List.setIfInBounds_toArray, List.set_cons_zero, List.set_cons_succ]
                  rfl
                refine join_ (σ := Nat × Nat) 4 #[true, true, true, true, true, true, true, true, true, true, true, true, true, true, true, true, true, true, true, true, false, false, false, false] (fun s => [(12, .pointer (some ⟨s.1, 0, none⟩)), (13, .pointer (some ⟨s.2, 0, none⟩))]) (fun s W => Kp W1 W (fun _ => False) ∧ W1.heap.size ≤ s.1 ∧ W1.heap.size ≤ s.2 ∧ s.1 ≠ s.2 ∧ W.heap[s.1]? = some (.cells #[.slice none 0 0, .int .i64 0] 68 (0, 0)) ∧ W.heap[s.2]? = some (.cells #[.slice none 0 0, .int .i64 0] 68 (0, 0))) ?_ ?_
                rotate_left
                · intro hJ
                  as_aux_lemma =>
                    refine two_ (i := 18) (j := 19) (Ni := some 12) (Nj := some 13) #[true, true, true, true, true, true, true, true, true, true, true, true, true, true, true, true, true, true, true, false, false, false, false, false] #[true, true, true, true, true, true, true, true, true, true, true, true, true, true, true, true, true, true, false, true, false, false, false, false] rfl rfl rfl rfl (by kernel_rfl) (by decide) (by decide) (fun K hK => ?_) (fun K hK => ?_)
                    · skip
                      refine box_step (by rfl) rfl (cs := #[.slice none 0 0, .int .i64 0]) (t := 68) (by first | (go_simp; done) | (go_simp; rfl)) ?_
                      intro ga hga wa hka hba
                      have hsz : W1.drew.heap.size = W1.heap.size := rfl
                      have hKa : Kp W1 wa (fun _ => False) := ((Kp.refl W1 _).drew).below hba
                      refine hK.out _ _ hKa (fun hHeld => ?_)
                      clear hK K
                      refine norm_ (a' := ?_) ?_ ?_
                      rotate_left
                      · show Act.put _ (some 12) _ = _
                        simp only [Act.put, List.setIfInBounds_toArray, List.set_cons_zero, List.set_cons_succ]
                        rfl
                      refine one_ (i := 19) (N := (some 13)) #[true, true, true, true, true, true, true, true, true, true, true, true, true, true, true, true, true, true, true, true, false, false, false, false] rfl rfl (by kernel_rfl) (by decide) (fun K hK => ?_)
                      refine box_step (by rfl) rfl (cs := #[.slice none 0 0, .int .i64 0]) (t := 68) (by first | (go_simp; done) | (go_simp; rfl)) ?_
                      intro gb hgb wb hkb hbb
                      have hKb := hKa.below hbb
                      have hla := blk_lt hka
                      have hls := hKa.size
                      refine hK.out _ _ hKb (fun hHeld => ?_)
                      clear hK K
                      refine norm_ (a' := ?_) ?_ ?_
                      rotate_left
                      · show Act.put _ (some 13) _ = _
                        simp only [Act.put, List.setIfInBounds_toArray, List.set_cons_zero, List.set_cons_succ]
                        rfl
                      exact norm_ (by first | (simp only [putAll, Act.put, List.setIfInBounds_toArray, List.set_cons_zero, List.set_cons_succ]; done) | (simp only [putAll, Act.put, List.setIfInBounds_toArray, List.set_cons_zero, List.set_cons_succ]; rfl)) (hJ (ga, gb) _ ⟨hKb, by show W1.heap.size ≤ ga; omega, by show W1.heap.size ≤ gb; omega, by show ga ≠ gb; omega, blk_below hka hbb, hkb⟩)
                    · skip
                      refine box_step (by rfl) rfl (cs := #[.slice none 0 0, .int .i64 0]) (t := 68) (by first | (go_simp; done) | (go_simp; rfl)) ?_
                      intro ga hga wa hka hba
                      have hsz : W1.drew.heap.size = W1.heap.size := rfl
                      have hKa : Kp W1 wa (fun _ => False) := ((Kp.refl W1 _).drew).below hba
                      refine hK.out _ _ hKa (fun hHeld => ?_)
                      clear hK K
                      refine norm_ (a' := ?_) ?_ ?_
                      rotate_left
                      · show Act.put _ (some 13) _ = _
                        simp only [Act.put, List.setIfInBounds_toArray, List.set_cons_zero, List.set_cons_succ]
                        rfl
                      refine one_ (i := 18) (N := (some 12)) #[true, true, true, true, true, true, true, true, true, true, true, true, true, true, true, true, true, true, true, true, false, false, false, false] rfl rfl (by kernel_rfl) (by decide) (fun K hK => ?_)
                      refine box_step (by rfl) rfl (cs := #[.slice none 0 0, .int .i64 0]) (t := 68) (by first | (go_simp; done) | (go_simp; rfl)) ?_
                      intro gb hgb wb hkb hbb
                      have hKb := hKa.below hbb
                      have hla := blk_lt hka
                      have hls := hKa.size
                      refine hK.out _ _ hKb (fun hHeld => ?_)
                      clear hK K
                      refine norm_ (a' := ?_) ?_ ?_
                      rotate_left
                      · show Act.put _ (some 12) _ = _
                        simp only [Act.put, List.setIfInBounds_toArray, List.set_cons_zero, List.set_cons_succ]
                        rfl
                      exact norm_ (by first | (simp only [putAll, Act.put, List.setIfInBounds_toArray, List.set_cons_zero, List.set_cons_succ]; done) | (simp only [putAll, Act.put, List.setIfInBounds_toArray, List.set_cons_zero, List.set_cons_succ]; rfl)) (hJ (gb, ga) _ ⟨hKb, by show W1.heap.size ≤ gb; omega, by show W1.heap.size ≤ ga; omega, by show gb ≠ ga; omega, hkb, blk_below hka hbb⟩)
                rintro ⟨mb, nb⟩ W2 ⟨hK2, hm2, hn2, hne2, hz1, hz2⟩
                refine norm_ (a' := ?_) ?_ ?_
                rotate_left
                · simp only [putAll, Act.put, List.setIfInBounds_toArray, List.set_cons_zero, List.set_cons_succ]
                  rfl
                as_aux_lemma =>
                  refine pure_ (i := 20) (N := (some 10)) (v := ?_) (a' := ?_) #[true, true, true, true, true, true, true, true, true, true, true, true, true, true, true, true, true, true, true, true, true, false, false, false] rfl rfl (by kernel_rfl) (fun _ _ _ h => h) (Or.inl ⟨by rfl, ?_⟩) ?_ ?_
                  rotate_left
                  · intro w'
                    go_simp
                    with_reducible rfl
                  rotate_left
                  · simp only [Act.put, List.setIfInBounds_toArray, List.set_cons_zero, List.set_cons_succ]
                    rfl
                  refine pure_ (i := 21) (N := (some 11)) (v := ?_) (a' := ?_) #[true, true, true, true, true, true, true, true, true, true, true, true, true, true, true, true, true, true, true, true, true, true, false, false] rfl rfl (by kernel_rfl) (fun _ _ _ h => h) (Or.inl ⟨by rfl, ?_⟩) ?_ ?_
                  rotate_left
                  · intro w'
                    go_simp
                    with_reducible rfl
                  rotate_left
                  · simp only [Act.put, List.setIfInBounds_toArray, List.set_cons_zero, List.set_cons_succ]
                    rfl
                  have hz1b := blk_put (blk_put hz1 0 (.slice Av Ak.length cv) rfl) 1 (.int .i64 tMax) rfl
                  have hz2b := blk_far (blk_far hz2 (p := ⟨mb, 0, none⟩) (Ne.symm hne2) (.slice Av Ak.length cv)) (p := ⟨mb, 1, none⟩) (Ne.symm hne2) (.int .i64 tMax)
                  have hK3 : Kp W1 ((W2.setCell ⟨mb, 0, none⟩ (.slice Av Ak.length cv)).setCell ⟨mb, 1, none⟩ (.int .i64 tMax)) (fun _ => False) := hK2.then_ ((kp_put _).then_ (kp_put _) (fun _ hk => .inl hk)) (fun q hq => .inr (by rw [hq]; exact hm2))
                  have y0 : W2.cell? ⟨mb, 0, none⟩ = some (.slice none 0 0) := (blk_cell hz1 0).trans rfl
                  have y1 : W2.cell? ⟨mb, 1, none⟩ = some (.int .i64 0) := (blk_cell hz1 1).trans rfl
                  have f0 := blk_frozen hz1 0
                  have f1 := blk_frozen hz1 1
                  refine one_ (i := 22) (N := none) #[true, true, true, true, true, true, true, true, true, true, true, true, true, true, true, true, true, true, true, true, true, true, true, false] rfl rfl (by kernel_rfl) (by decide) (fun K hK => ?_)
                  refine skip_ (w1 := ?_) (by rfl) rfl ?_ ?_
                  rotate_left
                  · go_simp
                    rfl
                  refine hK.out _ _ hK3 (fun hHeld => ?_)
                  clear hK K y0 y1 f0 f1
                  generalize ((W2.setCell ⟨mb, 0, none⟩ (.slice Av Ak.length cv)).setCell ⟨mb, 1, none⟩ (.int .i64 tMax)) = W3 at hz1b hz2b hK3 hHeld ⊢
                  as_aux_lemma =>
                    have hz1c := blk_far (blk_far hz1b (p := ⟨nb, 0, none⟩) hne2 (.slice Aq Ao.length cq)) (p := ⟨nb, 1, none⟩) hne2 (.int .i64 tMax)
                    have hz2c := blk_put (blk_put hz2b 0 (.slice Aq Ao.length cq) rfl) 1 (.int .i64 tMax) rfl
                    have hK4 : Kp W1 ((W3.setCell ⟨nb, 0, none⟩ (.slice Aq Ao.length cq)).setCell ⟨nb, 1, none⟩ (.int .i64 tMax)) (fun _ => False) := hK3.then_ ((kp_put _).then_ (kp_put _) (fun _ hk => .inl hk)) (fun q hq => .inr (by rw [hq]; exact hn2))
                    have y0 : W3.cell? ⟨nb, 0, none⟩ = some (.slice none 0 0) := (blk_cell hz2b 0).trans rfl
                    have y1 : W3.cell? ⟨nb, 1, none⟩ = some (.int .i64 0) := (blk_cell hz2b 1).trans rfl
                    have f0 := blk_frozen hz2b 0
                    have f1 := blk_frozen hz2b 1
                    refine one_ (i := 23) (N := none) #[true, true, true, true, true, true, true, true, true, true, true, true, true, true, true, true, true, true, true, true, true, true, true, true] rfl rfl (by kernel_rfl) (by decide) (fun K hK => ?_)
                    refine skip_ (w1 := ?_) (by rfl) rfl ?_ ?_
                    rotate_left
                    · go_simp
                      rfl
                    refine hK.out _ _ hK4 (fun hHeld => ?_)
                    clear hK K y0 y1 f0 f1 hHeld
                    generalize ((W3.setCell ⟨nb, 0, none⟩ (.slice Aq Ao.length cq)).setCell ⟨nb, 1, none⟩ (.int .i64 tMax)) = W4 at hz1c hz2c hK4 ⊢
                    refine done_ (by kernel_rfl) ?_
                    refine NoPanic.normal ?_
                    as_aux_lemma =>
                      have HM := Aside0.mk (And.intro hz1c hz2c)
                      have HP4 := Aside0.mk (HP.out.stay hK4)
                      have HO4 := Aside0.mk (blk_kp HBX.out hK4 (fun h => h))
                      have hpw := pow_most (n := n) (by omega)
                      have hRk := Nat.le_trans HR.out.lenk.1 hpw
                      have hAk := Nat.le_trans HR.out.lenk.2 hpw
                      have hRo := Nat.le_trans HR.out.leno.1 hpw
                      have hAo := Nat.le_trans HR.out.leno.2 hpw
                      have hmge := hm2
                      have hnge := hn2
                      have hobl : ob < W1.heap.size := HOB.out
                      have HRB1 : Aside0 (sb + 1 < W1.heap.size) := ⟨blk_lt HP.out.refs⟩
                      have HSB1 : Aside0 (sb < W1.heap.size) := ⟨blk_lt HP.out.sets⟩
                      clear hz1 hz2 hz1b hz2b hz1c hz2c hK2 hK3 hK4 hm2 hn2 HP HBX c0 c1 c2 c3 c4 c5 hHeld W2 W3
                      as_aux_lemma =>
                        go_upto_region 13 with fail
                        as_aux_lemma =>
                          have o2 : W4.cell? ⟨ob, 2, none⟩ = some (.int .i64 lo) := (blk_cell HO4.out 2).trans rfl
                          have o3 : W4.cell? ⟨ob, 3, none⟩ = some (.int .i64 hi) := (blk_cell HO4.out 3).trans rfl
                          go_quiet (fail)
                          have HP5 := Aside0.mk (HP4.out.stay ((Kp.refl _ _).drewN nq))
                          have HO5 := Aside0.mk (blk_drewN HO4.out nq)
                          have HM5 := Aside0.mk (And.intro (blk_drewN HM.out.1 nq) (blk_drewN HM.out.2 nq))
                          generalize W4.drewN nq = W5 at HP5 HO5 HM5 ⊢
                          clear HP4 HO4 HM o2 o3
                          as_aux_lemma =>
                            have HA : Aside0 (tMin ≤ IntKind.i8.wrap lo ∧ IntKind.i8.wrap lo ≤ tMax) := ⟨cv_in lo LO.out⟩
                            have HB : Aside0 (tMin ≤ IntKind.i8.wrap hi ∧ IntKind.i8.wrap hi ≤ tMax) := ⟨cv_in hi HI.out⟩
                            generalize IntKind.i8.wrap lo = a at HA ⊢
                            generalize IntKind.i8.wrap hi = b at HB ⊢
                            have ha1 : tMin ≤ a := HA.out.1
                            have ha2 : a ≤ tMax := HA.out.2
                            have hb1 : tMin ≤ b := HB.out.1
                            have hb2 : b ≤ tMax := HB.out.2
                            unfold tMin at ha1 hb1
                            unfold tMax at ha2 hb2
                            go_upto_region 15 with fail
                            have m0 : W5.cell? ⟨mb, 0, none⟩ = some (.slice Av Ak.length cv) := (blk_cell HM5.out.1 0).trans rfl
                            have m1 : W5.cell? ⟨mb, 1, none⟩ = some (.int .i64 tMax) := (blk_cell HM5.out.1 1).trans rfl
                            have hlk : Ak.length ≤ 2199023255552 := by omega
                            have hlo : Ao.length ≤ 2199023255552 := by omega
                            go_upto_region 16 with (first
                              | (go_at_call 38; go_must (refine (pruns2 HP5.out.avk HR.out.relk hlk).mono ?_); rintro e W6 ⟨u6, rfl, hu6, k6⟩; obtain ⟨Aw, cw, eu6⟩ := Kd.R_slice hu6; rw [ofR_len] at eu6; subst eu6; have HW := Aside0.mk hu6; have HK6 := Aside0.mk k6; clear hu6 k6))
                            have HP6 := Aside0.mk (HP5.out.stay HK6.out)
                            have HO6 := Aside0.mk (blk_kp HO5.out HK6.out (fun h => h))
                            have HM6 := Aside0.mk (And.intro (blk_kp HM5.out.1 HK6.out (fun h => h)) (blk_kp HM5.out.2 HK6.out (fun h => h)))
                            have hpk5 : pk < W5.heap.size := blk_lt HP5.out.setk.head
                            have hrb5 : sb + 1 < W5.heap.size := blk_lt HP5.out.refs
                            have hsb5 : sb < W5.heap.size := blk_lt HP5.out.sets
                            have hmb5 : mb < W5.heap.size := blk_lt HM5.out.1
                            have hnb5 : nb < W5.heap.size := blk_lt HM5.out.2
                            have hrbp : sb + 1 ≠ pk := blk_ne HP5.out.refs HP5.out.setk.head (by decide)
                            have hsbp : sb ≠ pk := blk_ne HP5.out.sets HP5.out.setk.head (by decide)
                            have hmbp : mb ≠ pk := blk_ne HM5.out.1 HP5.out.setk.head (by decide)
                            have hnbp : nb ≠ pk := blk_ne HM5.out.2 HP5.out.setk.head (by decide)
                            have hmrb : mb ≠ sb + 1 := by have := HRB1.out; omega
                            have hnrb : nb ≠ sb + 1 := by have := HRB1.out; omega
                            have hbase : w.heap.size ≤ W6.heap.size := HP6.out.kept.size
                            have o0 : W6.cell? ⟨ob, 0, none⟩ = some (.int .i64 kd) := (blk_cell HO6.out 0).trans rfl
                            clear HP5 HO5 HM5 m0 m1
                            as_aux_lemma =>
                              go_upto_block 2 with fail
                              clear o0
                              go_cut [19, 21, 22, 23, 24, 25] from 34 to 316 (fun s19 s21 s22 s23 s24 s25 wx => s19 = .bool true ∧ Aside0 (Hn w wx sb k pk n))
                              case first =>
                                by_cases hk1 : kd = 1
                                · subst hk1
                                  as_aux_lemma =>
                                    have m0 : W6.cell? ⟨mb, 0, none⟩ = some (.slice Av Ak.length cv) := (blk_cell HM6.out.1 0).trans rfl
                                    have m1 : W6.cell? ⟨mb, 1, none⟩ = some (.int .i64 tMax) := (blk_cell HM6.out.1 1).trans rfl
                                    go_upto_region 20 with (first
                                      | (go_at_call 39; go_must (refine (pdone HP6.out.avk true a b (by omega) hbase).mono ?_); rintro e W7 ⟨u7, rfl, hu7, k7⟩; obtain ⟨A7, c7, eu7⟩ := Kd.R_slice hu7.row; simp only [List.length_append, List.length_cons, List.length_nil, Nat.zero_add] at eu7; subst eu7; have HK7 := Aside0.mk k7; have HU7 := Aside0.mk hu7; have HP7 := Aside0.mk (HP6.out.stay k7); clear hu7 k7; obtain ⟨c0, c1, c2, c3, c4, c5⟩ := HP7.out.cells hk; have f2 := blk_frozen HP7.out.refs (k * 2); have f3 := blk_frozen HP7.out.refs (k * 2 + 1)))
                                    have HP8 := Aside0.mk (HP7.out.ref hk HU7.out rfl)
                                    have HK8 : Aside0 (Kp W6 _ (fun q => q = sb + 1)) := ⟨(HK7.out.mono (fun _ h => h.elim)).then_ ((kp_put (g := sb + 1) (i := k * 2) (.slice A7 (Ak.length + 1) c7)).then_ (kp_put (g := sb + 1) (i := k * 2 + 1) (.int .i64 tMax)) (fun _ hk => .inl hk)) (fun _ hq => .inl hq)⟩
                                    generalize (W7.setCell ⟨sb + 1, k * 2, none⟩ (.slice A7 (Ak.length + 1) c7)).setCell ⟨sb + 1, k * 2 + 1, none⟩ (.int .i64 tMax) = W8 at HP8 HK8 ⊢
                                    clear c0 c1 c2 c3 c4 c5 f2 f3 m0 m1 HU7 HP7 HK7
                                    as_aux_lemma =>
                                      obtain ⟨c0, c1, c2, c3, c4, c5⟩ := HP8.out.cells hk
                                      have K0 : Kp W8 W8.drew (fun q => q = pk) := (Kp.refl _ _).drew
                                      have HP8d := Aside0.mk (HP8.out.stay ((Kp.refl _ _).drew))
                                      have hb8 : w.heap.size ≤ W8.drew.heap.size := HP8d.out.kept.size
                                      refine wp_region_noPanic ?_
                                      refine start_ (n := 14) (S := fun w' => Kp W8 w' (fun q => q = pk)) (ds := []) #[false, false, false, false, false, false, false, false, false, false, false, false, false, false] (by kernel_rfl) rfl rfl K0 (fun hHeld => ?_)
                                      refine pure_ (i := 0) (N := (some 97)) (v := ?_) (a' := ?_) #[true, false, false, false, false, false, false, false, false, false, false, false, false, false] rfl rfl (by kernel_rfl) (fun _ _ _ h => h) (Or.inl ⟨by rfl, ?_⟩) ?_ ?_
                                      rotate_left
                                      · intro w'
                                        go_simp
                                        with_reducible rfl
                                      rotate_left
                                      · simp only [Act.put, List.setIfInBounds_toArray, List.set_cons_zero, List.set_cons_succ]
                                        rfl
                                      refine pure_ (i := 1) (N := (some 98)) (v := ?_) (a' := ?_) #[true, true, false, false, false, false, false, false, false, false, false, false, false, false] rfl rfl (by kernel_rfl) (fun _ _ _ h => h) (Or.inl ⟨by rfl, ?_⟩) ?_ ?_
                                      rotate_left
                                      · intro w'
                                        go_simp
                                        with_reducible rfl
                                      rotate_left
                                      · simp only [Act.put, List.setIfInBounds_toArray, List.set_cons_zero, List.set_cons_succ]
                                        rfl
                                      refine pure_ (i := 2) (N := (some 99)) (v := ?_) (a' := ?_) #[true, true, true, false, false, false, false, false, false, false, false, false, false, false] rfl rfl (by kernel_rfl) (fun _ _ _ h => h) (Or.inl ⟨by rfl, ?_⟩) ?_ ?_
                                      rotate_left
                                      · intro w'
                                        go_simp
                                        with_reducible rfl
                                      rotate_left
                                      · simp only [Act.put, List.setIfInBounds_toArray, List.set_cons_zero, List.set_cons_succ]
                                        rfl
                                      refine pure_ (i := 4) (N := (some 101)) (v := ?_) (a' := ?_) #[true, true, true, false, true, false, false, false, false, false, false, false, false, false] rfl rfl (by kernel_rfl) (fun _ _ _ h => h) (Or.inl ⟨by rfl, ?_⟩) ?_ ?_
                                      rotate_left
                                      · intro w'
                                        go_simp
                                        with_reducible rfl
                                      rotate_left
                                      · simp only [Act.put, List.setIfInBounds_toArray, List.set_cons_zero, List.set_cons_succ]
                                        rfl
                                      refine pure_ (i := 5) (N := (some 102)) (v := ?_) (a' := ?_) #[true, true, true, false, true, true, false, false, false, false, false, false, false, false] rfl rfl (by kernel_rfl) (fun _ _ _ h => h) (Or.inl ⟨by rfl, ?_⟩) ?_ ?_
                                      rotate_left
                                      · intro w'
                                        go_simp
                                        with_reducible rfl
                                      rotate_left
                                      · simp only [Act.put, List.setIfInBounds_toArray, List.set_cons_zero, List.set_cons_succ]
                                        rfl
                                      refine pure_ (i := 6) (N := (some 103)) (v := ?_) (a' := ?_) #[true, true, true, false, true, true, true, false, false, false, false, false, false, false] rfl rfl (by kernel_rfl) (fun _ _ _ h => h) (Or.inl ⟨by rfl, ?_⟩) ?_ ?_
                                      rotate_left
                                      · intro w'
                                        go_simp
                                        with_reducible rfl
                                      rotate_left
                                      · simp only [Act.put, List.setIfInBounds_toArray, List.set_cons_zero, List.set_cons_succ]
                                        rfl
                                      refine pure_ (i := 7) (N := (some 104)) (v := ?_) (a' := ?_) #[true, true, true, false, true, true, true, true, false, false, false, false, false, false] rfl rfl (by kernel_rfl) (fun _ _ _ h => h) (Or.inl ⟨by rfl, ?_⟩) ?_ ?_
                                      rotate_left
                                      · intro w'
                                        go_simp
                                        with_reducible rfl
                                      rotate_left
                                      · simp only [Act.put, List.setIfInBounds_toArray, List.set_cons_zero, List.set_cons_succ]
                                        rfl
                                      refine take_ (i := 8) (N := (some 105)) (v := ?_) (a' := ?_) #[true, true, true, false, true, true, true, true, true, false, false, false, false, false] rfl rfl (by kernel_rfl) (fun _ _ _ h => h) (Or.inl ⟨by rfl, ?_⟩) hHeld ?_ ?_
                                      rotate_left
                                      · intro w' hK
                                        have s2 := cell_kp c2 hK hrbp
                                        have s3 := cell_kp c3 hK hrbp
                                        go_simp
                                        with_reducible rfl
                                      rotate_left
                                      · simp only [Act.put, List.setIfInBounds_toArray, List.set_cons_zero, List.set_cons_succ]
                                        rfl
                                      refine one_ (i := 3) (N := (some 100)) #[true, true, true, true, true, true, true, true, true, false, false, false, false, false] rfl rfl (by kernel_rfl) (by decide) (fun K hK => ?_)
                                      refine goes_ Try.func52 (by kernel_rfl) rfl #[.pointer (some ⟨pk, 0, none⟩), .int .i8 a, .int .i8 b] (by rfl) rfl rfl (by (try simp only [List.map_toArray, List.map_cons, List.map_nil]); first | done | rfl) ?_
                                      refine (add_sem HP8d.out.setk a b HA.out.1 HB.out.2 (by omega) hb8).mono ?_
                                      rintro e W9 ⟨b1, R2, rfl, hL, hm⟩
                                      obtain ⟨sk2, hset, -⟩ := hL.set
                                      have HP9 := Aside0.mk (HP8d.out.wrote hL.kept hset)
                                      have hlen2 := hL.len
                                      have hb1 := hL.told
                                      have HK9 : Aside0 (Kp W8 W9 (fun q => q = pk)) := ⟨K0.then_ hL.kept (fun _ hq => .inl hq)⟩
                                      have HREL := Aside0.mk (HR.out.relk.add HA.out.1 HB.out.2 hset.good hm)
                                      have hdec : decide (Rk = R2) = !b1 := by
                                        cases b1 with
                                        | true => simpa using fun h => (hb1.1 rfl) h.symm
                                        | false =>
                                          by_cases h : Rk = R2
                                          · simp [h]
                                          · exact absurd (hb1.2 (Ne.symm h)) (by simp)
                                      clear hL hm hset
                                      refine ⟨_, rfl, ?_⟩
                                      refine hK.out _ _ HK9.out (fun hHeld => ?_)
                                      clear hK K
                                      refine norm_ (a' := ?_) ?_ ?_
                                      rotate_left
                                      · show Act.put _ (some 100) _ = _
                                        simp only [Act.put, List.setIfInBounds_toArray, List.set_cons_zero, List.set_cons_succ]
                                        rfl
                                      as_aux_lemma =>
                                        refine one_ (i := 9) (N := (some 106)) #[true, true, true, true, true, true, true, true, true, true, false, false, false, false] rfl rfl (by kernel_rfl) (by decide) (fun K hK => ?_)
                                        refine goes_ Try.func38 (by kernel_rfl) rfl #[.agg #[.slice A7 (Ak.length + 1) c7, .int .i64 tMax]] (by rfl) rfl rfl (by (try simp only [List.map_toArray, List.map_cons, List.map_nil]); first | done | rfl) ?_
                                        refine (pruns2 HP9.out.avk HREL.out (by simp; omega)).mono ?_
                                        rintro e W10 ⟨u10, rfl, hu10, k10⟩
                                        obtain ⟨A10, c10, eu10⟩ := Kd.R_slice hu10
                                        rw [ofR_len] at eu10
                                        subst eu10
                                        have HU10 := Aside0.mk (RV.of_row hu10 (Kp.refl _ (fun _ => False)) (fun _ h => h.elim))
                                        have HW10 := Aside0.mk (RV.of_row HW.out (((show Kp W6 W8 (fun q => q = sb + 1 ∨ q = pk) from HK8.out.mono (fun _ h => .inl h)).then_ HK9.out (fun _ h => .inl (.inr h))).then_ k10 (fun _ h => h.elim)) (fun q hq => by rcases hq with rfl | rfl <;> omega))
                                        have HK10 := Aside0.mk k10
                                        clear hu10 k10
                                        refine ⟨_, rfl, ?_⟩
                                        refine hK.out _ _ (HK9.out.then_ HK10.out (fun _ h => h.elim)) (fun hHeld => ?_)
                                        clear hK K
                                        refine norm_ (a' := ?_) ?_ ?_
                                        rotate_left
                                        · show Act.put _ (some 106) _ = _
                                          simp only [Act.put, List.setIfInBounds_toArray, List.set_cons_zero, List.set_cons_succ]
                                          rfl
                                        as_aux_lemma =>
                                          refine one_ (i := 10) (N := (some 107)) #[true, true, true, true, true, true, true, true, true, true, true, false, false, false] rfl rfl (by kernel_rfl) (by decide) (fun K hK => ?_)
                                          refine goes_ Try.func21 (by kernel_rfl) rfl #[.slice Aw Rk.length cw, .slice A10 R2.length c10] (by rfl) rfl rfl (by (try simp only [List.map_toArray, List.map_cons, List.map_nil]); first | done | rfl) ?_
                                          refine (psame HW10.out HU10.out (by omega)).mono ?_
                                          rw [hdec]
                                          rintro e W11 ⟨rfl, k11⟩
                                          have HK11 := Aside0.mk k11
                                          clear k11
                                          refine ⟨_, rfl, ?_⟩
                                          refine hK.out _ _ ((HK9.out.then_ HK10.out (fun _ h => h.elim)).then_ HK11.out (fun _ h => h.elim)) (fun hHeld => ?_)
                                          clear hK K
                                          refine norm_ (a' := ?_) ?_ ?_
                                          rotate_left
                                          · show Act.put _ (some 107) _ = _
                                            simp only [Act.put, List.setIfInBounds_toArray, List.set_cons_zero, List.set_cons_succ]
                                            rfl
                                          as_aux_lemma =>
                                            refine pure_ (i := 11) (N := (some 108)) (v := ?_) (a' := ?_) #[true, true, true, true, true, true, true, true, true, true, true, true, false, false] rfl rfl (by kernel_rfl) (fun _ _ _ h => h) (Or.inl ⟨by rfl, ?_⟩) ?_ ?_
                                            rotate_left
                                            · intro w'
                                              go_simp
                                              with_reducible rfl
                                            rotate_left
                                            · simp only [Act.put, List.setIfInBounds_toArray, List.set_cons_zero, List.set_cons_succ]
                                              rfl
                                            refine pure_ (i := 12) (N := (some 109)) (v := .bool true) (a' := ?_) #[true, true, true, true, true, true, true, true, true, true, true, true, true, false] rfl rfl (by kernel_rfl) (fun _ _ _ h => h) (Or.inl ⟨by rfl, ?_⟩) ?_ ?_
                                            · intro w'
                                              go_simp
                                              try simp
                                            rotate_left
                                            · simp only [Act.put, List.setIfInBounds_toArray, List.set_cons_zero, List.set_cons_succ]
                                              rfl
                                            refine pure_ (i := 13) (N := (some 19)) (v := ?_) (a' := ?_) #[true, true, true, true, true, true, true, true, true, true, true, true, true, true] rfl rfl (by kernel_rfl) (fun _ _ _ h => h) (Or.inl ⟨by rfl, ?_⟩) ?_ ?_
                                            rotate_left
                                            · intro w'
                                              go_simp
                                              with_reducible rfl
                                            rotate_left
                                            · simp only [Act.put, List.setIfInBounds_toArray, List.set_cons_zero, List.set_cons_succ]
                                              rfl
                                            refine done_ (by kernel_rfl) ?_
                                            refine NoPanic.normal ?_
                                            as_aux_lemma =>
                                              have hpu := pow_up n
                                              go_wp2
                                              go_meet
                                              exact ⟨rfl, ⟨⟨_, _, _, _, _, _, _, _, _, (HP9.out.stay (HK10.out.then_ HK11.out (fun _ h => h.elim))), ⟨HREL.out, HR.out.relo, ⟨by have := HR.out.lenk.1; have := pow_one n; omega, by have := HR.out.lenk.2; have := pow_one n; simp; omega⟩, by have := HR.out.leno; omega⟩⟩⟩⟩
                                have e1 : (kd == 1) = false := by simpa using hk1
                                by_cases hk2 : kd = 2
                                · subst hk2
                                  as_aux_lemma =>
                                    have m0 : W6.cell? ⟨mb, 0, none⟩ = some (.slice Av Ak.length cv) := (blk_cell HM6.out.1 0).trans rfl
                                    have m1 : W6.cell? ⟨mb, 1, none⟩ = some (.int .i64 tMax) := (blk_cell HM6.out.1 1).trans rfl
                                    go_upto_region 23 with (first
                                      | (go_at_call 39; go_must (refine (pdone HP6.out.avk false a b (by omega) hbase).mono ?_); rintro e W7 ⟨u7, rfl, hu7, k7⟩; obtain ⟨A7, c7, eu7⟩ := Kd.R_slice hu7.row; simp only [List.length_append, List.length_cons, List.length_nil, Nat.zero_add] at eu7; subst eu7; have HK7 := Aside0.mk k7; have HU7 := Aside0.mk hu7; have HP7 := Aside0.mk (HP6.out.stay k7); clear hu7 k7; obtain ⟨c0, c1, c2, c3, c4, c5⟩ := HP7.out.cells hk; have f2 := blk_frozen HP7.out.refs (k * 2); have f3 := blk_frozen HP7.out.refs (k * 2 + 1)))
                                    have HP8 := Aside0.mk (HP7.out.ref hk HU7.out rfl)
                                    have HK8 : Aside0 (Kp W6 _ (fun q => q = sb + 1)) := ⟨(HK7.out.mono (fun _ h => h.elim)).then_ ((kp_put (g := sb + 1) (i := k * 2) (.slice A7 (Ak.length + 1) c7)).then_ (kp_put (g := sb + 1) (i := k * 2 + 1) (.int .i64 tMax)) (fun _ hk => .inl hk)) (fun _ hq => .inl hq)⟩
                                    generalize (W7.setCell ⟨sb + 1, k * 2, none⟩ (.slice A7 (Ak.length + 1) c7)).setCell ⟨sb + 1, k * 2 + 1, none⟩ (.int .i64 tMax) = W8 at HP8 HK8 ⊢
                                    clear c0 c1 c2 c3 c4 c5 f2 f3 m0 m1 HU7 HP7 HK7
                                    as_aux_lemma =>
                                      obtain ⟨c0, c1, c2, c3, c4, c5⟩ := HP8.out.cells hk
                                      have K0 : Kp W8 W8.drew (fun q => q = pk) := (Kp.refl _ _).drew
                                      have HP8d := Aside0.mk (HP8.out.stay ((Kp.refl _ _).drew))
                                      have hb8 : w.heap.size ≤ W8.drew.heap.size := HP8d.out.kept.size
                                      refine wp_region_noPanic ?_
                                      refine start_ (n := 14) (S := fun w' => Kp W8 w' (fun q => q = pk)) (ds := []) #[false, false, false, false, false, false, false, false, false, false, false, false, false, false] (by kernel_rfl) rfl rfl K0 (fun hHeld => ?_)
                                      refine pure_ (i := 0) (N := (some 119)) (v := ?_) (a' := ?_) #[true, false, false, false, false, false, false, false, false, false, false, false, false, false] rfl rfl (by kernel_rfl) (fun _ _ _ h => h) (Or.inl ⟨by rfl, ?_⟩) ?_ ?_
                                      rotate_left
                                      · intro w'
                                        go_simp
                                        with_reducible rfl
                                      rotate_left
                                      · simp only [Act.put, List.setIfInBounds_toArray, List.set_cons_zero, List.set_cons_succ]
                                        rfl
                                      refine pure_ (i := 1) (N := (some 120)) (v := ?_) (a' := ?_) #[true, true, false, false, false, false, false, false, false, false, false, false, false, false] rfl rfl (by kernel_rfl) (fun _ _ _ h => h) (Or.inl ⟨by rfl, ?_⟩) ?_ ?_
                                      rotate_left
                                      · intro w'
                                        go_simp
                                        with_reducible rfl
                                      rotate_left
                                      · simp only [Act.put, List.setIfInBounds_toArray, List.set_cons_zero, List.set_cons_succ]
                                        rfl
                                      refine pure_ (i := 2) (N := (some 121)) (v := ?_) (a' := ?_) #[true, true, true, false, false, false, false, false, false, false, false, false, false, false] rfl rfl (by kernel_rfl) (fun _ _ _ h => h) (Or.inl ⟨by rfl, ?_⟩) ?_ ?_
                                      rotate_left
                                      · intro w'
                                        go_simp
                                        with_reducible rfl
                                      rotate_left
                                      · simp only [Act.put, List.setIfInBounds_toArray, List.set_cons_zero, List.set_cons_succ]
                                        rfl
                                      refine pure_ (i := 4) (N := (some 123)) (v := ?_) (a' := ?_) #[true, true, true, false, true, false, false, false, false, false, false, false, false, false] rfl rfl (by kernel_rfl) (fun _ _ _ h => h) (Or.inl ⟨by rfl, ?_⟩) ?_ ?_
                                      rotate_left
                                      · intro w'
                                        go_simp
                                        with_reducible rfl
                                      rotate_left
                                      · simp only [Act.put, List.setIfInBounds_toArray, List.set_cons_zero, List.set_cons_succ]
                                        rfl
                                      refine pure_ (i := 5) (N := (some 124)) (v := ?_) (a' := ?_) #[true, true, true, false, true, true, false, false, false, false, false, false, false, false] rfl rfl (by kernel_rfl) (fun _ _ _ h => h) (Or.inl ⟨by rfl, ?_⟩) ?_ ?_
                                      rotate_left
                                      · intro w'
                                        go_simp
                                        with_reducible rfl
                                      rotate_left
                                      · simp only [Act.put, List.setIfInBounds_toArray, List.set_cons_zero, List.set_cons_succ]
                                        rfl
                                      refine pure_ (i := 6) (N := (some 125)) (v := ?_) (a' := ?_) #[true, true, true, false, true, true, true, false, false, false, false, false, false, false] rfl rfl (by kernel_rfl) (fun _ _ _ h => h) (Or.inl ⟨by rfl, ?_⟩) ?_ ?_
                                      rotate_left
                                      · intro w'
                                        go_simp
                                        with_reducible rfl
                                      rotate_left
                                      · simp only [Act.put, List.setIfInBounds_toArray, List.set_cons_zero, List.set_cons_succ]
                                        rfl
                                      refine pure_ (i := 7) (N := (some 126)) (v := ?_) (a' := ?_) #[true, true, true, false, true, true, true, true, false, false, false, false, false, false] rfl rfl (by kernel_rfl) (fun _ _ _ h => h) (Or.inl ⟨by rfl, ?_⟩) ?_ ?_
                                      rotate_left
                                      · intro w'
                                        go_simp
                                        with_reducible rfl
                                      rotate_left
                                      · simp only [Act.put, List.setIfInBounds_toArray, List.set_cons_zero, List.set_cons_succ]
                                        rfl
                                      refine take_ (i := 8) (N := (some 127)) (v := ?_) (a' := ?_) #[true, true, true, false, true, true, true, true, true, false, false, false, false, false] rfl rfl (by kernel_rfl) (fun _ _ _ h => h) (Or.inl ⟨by rfl, ?_⟩) hHeld ?_ ?_
                                      rotate_left
                                      · intro w' hK
                                        have s2 := cell_kp c2 hK hrbp
                                        have s3 := cell_kp c3 hK hrbp
                                        go_simp
                                        with_reducible rfl
                                      rotate_left
                                      · simp only [Act.put, List.setIfInBounds_toArray, List.set_cons_zero, List.set_cons_succ]
                                        rfl
                                      refine one_ (i := 3) (N := (some 122)) #[true, true, true, true, true, true, true, true, true, false, false, false, false, false] rfl rfl (by kernel_rfl) (by decide) (fun K hK => ?_)
                                      refine goes_ Try.func53 (by kernel_rfl) rfl #[.pointer (some ⟨pk, 0, none⟩), .int .i8 a, .int .i8 b] (by rfl) rfl rfl (by (try simp only [List.map_toArray, List.map_cons, List.map_nil]); first | done | rfl) ?_
                                      refine (cut_sem HP8d.out.setk a b HA.out.1 HB.out.2 (by omega) hb8).mono ?_
                                      rintro e W9 ⟨b1, R2, rfl, hL, hm⟩
                                      obtain ⟨sk2, hset, -⟩ := hL.set
                                      have HP9 := Aside0.mk (HP8d.out.wrote hL.kept hset)
                                      have hlen2 := hL.len
                                      have hb1 := hL.told
                                      have HK9 : Aside0 (Kp W8 W9 (fun q => q = pk)) := ⟨K0.then_ hL.kept (fun _ hq => .inl hq)⟩
                                      have HREL := Aside0.mk (HR.out.relk.cut HA.out.1 HB.out.2 hset.good hm)
                                      have hdec : decide (Rk = R2) = !b1 := by
                                        cases b1 with
                                        | true => simpa using fun h => (hb1.1 rfl) h.symm
                                        | false =>
                                          by_cases h : Rk = R2
                                          · simp [h]
                                          · exact absurd (hb1.2 (Ne.symm h)) (by simp)
                                      clear hL hm hset
                                      refine ⟨_, rfl, ?_⟩
                                      refine hK.out _ _ HK9.out (fun hHeld => ?_)
                                      clear hK K
                                      refine norm_ (a' := ?_) ?_ ?_
                                      rotate_left
                                      · show Act.put _ (some 122) _ = _
                                        simp only [Act.put, List.setIfInBounds_toArray, List.set_cons_zero, List.set_cons_succ]
                                        rfl
                                      as_aux_lemma =>
                                        refine one_ (i := 9) (N := (some 128)) #[true, true, true, true, true, true, true, true, true, true, false, false, false, false] rfl rfl (by kernel_rfl) (by decide) (fun K hK => ?_)
                                        refine goes_ Try.func38 (by kernel_rfl) rfl #[.agg #[.slice A7 (Ak.length + 1) c7, .int .i64 tMax]] (by rfl) rfl rfl (by (try simp only [List.map_toArray, List.map_cons, List.map_nil]); first | done | rfl) ?_
                                        refine (pruns2 HP9.out.avk HREL.out (by simp; omega)).mono ?_
                                        rintro e W10 ⟨u10, rfl, hu10, k10⟩
                                        obtain ⟨A10, c10, eu10⟩ := Kd.R_slice hu10
                                        rw [ofR_len] at eu10
                                        subst eu10
                                        have HU10 := Aside0.mk (RV.of_row hu10 (Kp.refl _ (fun _ => False)) (fun _ h => h.elim))
                                        have HW10 := Aside0.mk (RV.of_row HW.out (((show Kp W6 W8 (fun q => q = sb + 1 ∨ q = pk) from HK8.out.mono (fun _ h => .inl h)).then_ HK9.out (fun _ h => .inl (.inr h))).then_ k10 (fun _ h => h.elim)) (fun q hq => by rcases hq with rfl | rfl <;> omega))
                                        have HK10 := Aside0.mk k10
                                        clear hu10 k10
                                        refine ⟨_, rfl, ?_⟩
                                        refine hK.out _ _ (HK9.out.then_ HK10.out (fun _ h => h.elim)) (fun hHeld => ?_)
                                        clear hK K
                                        refine norm_ (a' := ?_) ?_ ?_
                                        rotate_left
                                        · show Act.put _ (some 128) _ = _
                                          simp only [Act.put, List.setIfInBounds_toArray, List.set_cons_zero, List.set_cons_succ]
                                          rfl
                                        as_aux_lemma =>
                                          refine one_ (i := 10) (N := (some 129)) #[true, true, true, true, true, true, true, true, true, true, true, false, false, false] rfl rfl (by kernel_rfl) (by decide) (fun K hK => ?_)
                                          refine goes_ Try.func21 (by kernel_rfl) rfl #[.slice Aw Rk.length cw, .slice A10 R2.length c10] (by rfl) rfl rfl (by (try simp only [List.map_toArray, List.map_cons, List.map_nil]); first | done | rfl) ?_
                                          refine (psame HW10.out HU10.out (by omega)).mono ?_
                                          rw [hdec]
                                          rintro e W11 ⟨rfl, k11⟩
                                          have HK11 := Aside0.mk k11
                                          clear k11
                                          refine ⟨_, rfl, ?_⟩
                                          refine hK.out _ _ ((HK9.out.then_ HK10.out (fun _ h => h.elim)).then_ HK11.out (fun _ h => h.elim)) (fun hHeld => ?_)
                                          clear hK K
                                          refine norm_ (a' := ?_) ?_ ?_
                                          rotate_left
                                          · show Act.put _ (some 129) _ = _
                                            simp only [Act.put, List.setIfInBounds_toArray, List.set_cons_zero, List.set_cons_succ]
                                            rfl
                                          as_aux_lemma =>
                                            refine pure_ (i := 11) (N := (some 130)) (v := ?_) (a' := ?_) #[true, true, true, true, true, true, true, true, true, true, true, true, false, false] rfl rfl (by kernel_rfl) (fun _ _ _ h => h) (Or.inl ⟨by rfl, ?_⟩) ?_ ?_
                                            rotate_left
                                            · intro w'
                                              go_simp
                                              with_reducible rfl
                                            rotate_left
                                            · simp only [Act.put, List.setIfInBounds_toArray, List.set_cons_zero, List.set_cons_succ]
                                              rfl
                                            refine pure_ (i := 12) (N := (some 131)) (v := .bool true) (a' := ?_) #[true, true, true, true, true, true, true, true, true, true, true, true, true, false] rfl rfl (by kernel_rfl) (fun _ _ _ h => h) (Or.inl ⟨by rfl, ?_⟩) ?_ ?_
                                            · intro w'
                                              go_simp
                                              try simp
                                            rotate_left
                                            · simp only [Act.put, List.setIfInBounds_toArray, List.set_cons_zero, List.set_cons_succ]
                                              rfl
                                            refine pure_ (i := 13) (N := (some 19)) (v := ?_) (a' := ?_) #[true, true, true, true, true, true, true, true, true, true, true, true, true, true] rfl rfl (by kernel_rfl) (fun _ _ _ h => h) (Or.inl ⟨by rfl, ?_⟩) ?_ ?_
                                            rotate_left
                                            · intro w'
                                              go_simp
                                              with_reducible rfl
                                            rotate_left
                                            · simp only [Act.put, List.setIfInBounds_toArray, List.set_cons_zero, List.set_cons_succ]
                                              rfl
                                            refine done_ (by kernel_rfl) ?_
                                            refine NoPanic.normal ?_
                                            as_aux_lemma =>
                                              have hpu := pow_up n
                                              go_wp2
                                              go_meet
                                              exact ⟨rfl, ⟨⟨_, _, _, _, _, _, _, _, _, (HP9.out.stay (HK10.out.then_ HK11.out (fun _ h => h.elim))), ⟨HREL.out, HR.out.relo, ⟨by have := HR.out.lenk.1; have := pow_one n; omega, by have := HR.out.lenk.2; have := pow_one n; simp; omega⟩, by have := HR.out.leno; omega⟩⟩⟩⟩
                                have e2 : (kd == 2) = false := by simpa using hk2
                                by_cases hk3 : kd = 3
                                · subst hk3
                                  as_aux_lemma =>
                                    have n0 : W6.cell? ⟨nb, 0, none⟩ = some (.slice Aq Ao.length cq) := (blk_cell HM6.out.2 0).trans rfl
                                    have n1 : W6.cell? ⟨nb, 1, none⟩ = some (.int .i64 tMax) := (blk_cell HM6.out.2 1).trans rfl
                                    go_upto_region 26 with (first
                                      | (go_at_call 38; go_must (refine (pruns2 HP6.out.avo HR.out.relo hlo).mono ?_); rintro e W7 ⟨u7, rfl, hu7, k7⟩; obtain ⟨An, cn, eu7⟩ := Kd.R_slice hu7; rw [ofR_len] at eu7; subst eu7; have HN := Aside0.mk hu7; have HK7 := Aside0.mk k7; clear hu7 k7))
                                    have HP7 := Aside0.mk (HP6.out.stay HK7.out)
                                    have hrb6 : sb + 1 < W6.heap.size := blk_lt HP6.out.refs
                                    clear n0 n1
                                    go_loopw [137] (fun iv wz => ∃ i : Nat, i ≤ Ro.length ∧ iv = .int .i64 i ∧ Aside0 (∃ vi, Pl w wz sb (sb + 1) k pk po sk so vi (.slice Aq Ao.length cq) Rk Ro (Ak ++ tru (Ro.take i)) Ao) ∧ Aside0 (Kp W7 wz (fun q => q = sb + 1))) (fun iv _ => Ro.length - (intOf iv).toNat)
                                    case atStart => exact ⟨0, by omega, rfl, ⟨⟨_, by simpa [tru] using HP7.out⟩⟩, ⟨Kp.refl _ _⟩⟩
                                    case round =>
                                      obtain ⟨i, hi, rfl, H1, H2⟩ := hrel
                                      obtain ⟨vi, hPi⟩ := H1.out
                                      obtain ⟨Ai, ci, evi⟩ := Kd.R_slice hPi.avk.row
                                      rw [tru_len Ak Ro hi] at evi
                                      subst evi
                                      have HPi := Aside0.mk hPi
                                      clear hPi H1
                                      rename World => wz
                                      by_cases hki : i < Ro.length
                                      · have hkz : (i : Int) < Ro.length := by omega
                                        have hi0 : (0 : Int) ≤ i := by omega
                                        have hRV := RV.of_row HN.out H2.out (fun q hq => by rw [hq]; exact hrb6)
                                        obtain ⟨an, cn2, ean, r0, r1⟩ := hRV.cells hki
                                        simp only [Value.slice.injEq] at ean
                                        obtain ⟨rfl, -, rfl⟩ := ean
                                        clear hRV
                                        obtain ⟨ra, hra⟩ : ∃ ra, Ro[i].1 = ra := ⟨_, rfl⟩
                                        obtain ⟨rz, hrz⟩ : ∃ rz, Ro[i].2 = rz := ⟨_, rfl⟩
                                        rw [hra] at r0
                                        rw [hrz] at r1
                                        go_upto_region 28 with fail
                                        have hbx := heap_alloc_new wz (.cells #[.int .i64 ra, .int .i64 rz] 42)
                                        have kb : Kp wz (wz.alloc (.cells #[.int .i64 ra, .int .i64 rz] 42)) (fun _ => False) := (Kp.refl _ _).alloc _
                                        generalize wz.alloc (.cells #[.int .i64 ra, .int .i64 rz] 42) = Wb at hbx kb ⊢
                                        generalize wz.heap.size = bx at hbx ⊢
                                        clear r0 r1
                                        have HPb := Aside0.mk (HPi.out.stay kb)
                                        have HPbd := Aside0.mk (HPb.out.stay ((Kp.refl _ _).drew))
                                        obtain ⟨c0, c1, c2, c3, c4, c5⟩ := HPb.out.cells hk
                                        have x0 : Wb.cell? ⟨bx, 0, none⟩ = some (.int .i64 ra) := (blk_cell hbx 0).trans rfl
                                        have x1 : Wb.cell? ⟨bx, 1, none⟩ = some (.int .i64 rz) := (blk_cell hbx 1).trans rfl
                                        have hlc : ((Ak ++ tru (Ro.take i)) ++ [(⟨true, ra, rz⟩ : S98)]).length = Ak.length + i + 1 := by rw [List.length_append, tru_len Ak Ro hi]; rfl
                                        have hbb : w.heap.size ≤ Wb.drew.heap.size := HPbd.out.kept.size
                                        refine wp_region_noPanic ?_
                                        refine start_ (n := 13) (S := fun w' => Kp Wb w' (fun _ => False)) (ds := [12]) #[false, false, false, false, false, false, false, false, false, false, false, false, false] (by kernel_rfl) rfl rfl ((Kp.refl _ _).drew) (fun hHeld => ?_)
                                        refine pure_ (i := 0) (N := (some 141)) (v := ?_) (a' := ?_) #[true, false, false, false, false, false, false, false, false, false, false, false, false] rfl rfl (by kernel_rfl) (fun _ _ _ h => h) (Or.inl ⟨by rfl, ?_⟩) ?_ ?_
                                        rotate_left
                                        · intro w'
                                          go_simp
                                          with_reducible rfl
                                        rotate_left
                                        · simp only [Act.put, List.setIfInBounds_toArray, List.set_cons_zero, List.set_cons_succ]
                                          rfl
                                        refine pure_ (i := 1) (N := (some 142)) (v := ?_) (a' := ?_) #[true, true, false, false, false, false, false, false, false, false, false, false, false] rfl rfl (by kernel_rfl) (fun _ _ _ h => h) (Or.inl ⟨by rfl, ?_⟩) ?_ ?_
                                        rotate_left
                                        · intro w'
                                          go_simp
                                          with_reducible rfl
                                        rotate_left
                                        · simp only [Act.put, List.setIfInBounds_toArray, List.set_cons_zero, List.set_cons_succ]
                                          rfl
                                        refine pure_ (i := 2) (N := (some 143)) (v := ?_) (a' := ?_) #[true, true, true, false, false, false, false, false, false, false, false, false, false] rfl rfl (by kernel_rfl) (fun _ _ _ h => h) (Or.inl ⟨by rfl, ?_⟩) ?_ ?_
                                        rotate_left
                                        · intro w'
                                          go_simp
                                          with_reducible rfl
                                        rotate_left
                                        · simp only [Act.put, List.setIfInBounds_toArray, List.set_cons_zero, List.set_cons_succ]
                                          rfl
                                        refine pure_ (i := 3) (N := (some 144)) (v := ?_) (a' := ?_) #[true, true, true, true, false, false, false, false, false, false, false, false, false] rfl rfl (by kernel_rfl) (fun _ _ _ h => h) (Or.inl ⟨by rfl, ?_⟩) ?_ ?_
                                        rotate_left
                                        · intro w'
                                          go_simp
                                          with_reducible rfl
                                        rotate_left
                                        · simp only [Act.put, List.setIfInBounds_toArray, List.set_cons_zero, List.set_cons_succ]
                                          rfl
                                        refine pure_ (i := 4) (N := (some 145)) (v := ?_) (a' := ?_) #[true, true, true, true, true, false, false, false, false, false, false, false, false] rfl rfl (by kernel_rfl) (fun _ _ _ h => h) (Or.inl ⟨by rfl, ?_⟩) ?_ ?_
                                        rotate_left
                                        · intro w'
                                          go_simp
                                          with_reducible rfl
                                        rotate_left
                                        · simp only [Act.put, List.setIfInBounds_toArray, List.set_cons_zero, List.set_cons_succ]
                                          rfl
                                        refine pure_ (i := 6) (N := (some 147)) (v := ?_) (a' := ?_) #[true, true, true, true, true, false, true, false, false, false, false, false, false] rfl rfl (by kernel_rfl) (fun _ _ _ h => h) (Or.inl ⟨by rfl, ?_⟩) ?_ ?_
                                        rotate_left
                                        · intro w'
                                          go_simp
                                          with_reducible rfl
                                        rotate_left
                                        · simp only [Act.put, List.setIfInBounds_toArray, List.set_cons_zero, List.set_cons_succ]
                                          rfl
                                        refine pure_ (i := 8) (N := (some 149)) (v := ?_) (a' := ?_) #[true, true, true, true, true, false, true, false, true, false, false, false, false] rfl rfl (by kernel_rfl) (fun _ _ _ h => h) (Or.inl ⟨by rfl, ?_⟩) ?_ ?_
                                        rotate_left
                                        · intro w'
                                          go_simp
                                          with_reducible rfl
                                        rotate_left
                                        · simp only [Act.put, List.setIfInBounds_toArray, List.set_cons_zero, List.set_cons_succ]
                                          rfl
                                        refine take_ (i := 5) (N := (some 146)) (v := ?_) (a' := ?_) #[true, true, true, true, true, true, true, false, true, false, false, false, false] rfl rfl (by kernel_rfl) (fun _ _ _ h => h) (Or.inl ⟨by rfl, ?_⟩) hHeld ?_ ?_
                                        rotate_left
                                        · intro w' hK
                                          have s2 := cell_kp c2 hK (fun h => h)
                                          have s3 := cell_kp c3 hK (fun h => h)
                                          go_simp
                                          with_reducible rfl
                                        rotate_left
                                        · simp only [Act.put, List.setIfInBounds_toArray, List.set_cons_zero, List.set_cons_succ]
                                          rfl
                                        refine take_ (i := 7) (N := (some 148)) (v := ?_) (a' := ?_) #[true, true, true, true, true, true, true, true, true, false, false, false, false] rfl rfl (by kernel_rfl) (fun _ _ _ h => h) (Or.inl ⟨by rfl, ?_⟩) hHeld ?_ ?_
                                        rotate_left
                                        · intro w' hK
                                          have s2 := cell_kp x0 hK (fun h => h)
                                          go_simp
                                          with_reducible rfl
                                        rotate_left
                                        · simp only [Act.put, List.setIfInBounds_toArray, List.set_cons_zero, List.set_cons_succ]
                                          rfl
                                        refine take_ (i := 9) (N := (some 150)) (v := ?_) (a' := ?_) #[true, true, true, true, true, true, true, true, true, true, false, false, false] rfl rfl (by kernel_rfl) (fun _ _ _ h => h) (Or.inl ⟨by rfl, ?_⟩) hHeld ?_ ?_
                                        rotate_left
                                        · intro w' hK
                                          have s2 := cell_kp x1 hK (fun h => h)
                                          go_simp
                                          with_reducible rfl
                                        rotate_left
                                        · simp only [Act.put, List.setIfInBounds_toArray, List.set_cons_zero, List.set_cons_succ]
                                          rfl
                                        refine one_ (i := 10) (N := (some 151)) #[true, true, true, true, true, true, true, true, true, true, true, false, false] rfl rfl (by kernel_rfl) (by decide) (fun K hK => ?_)
                                        refine goes_ Try.func39 (by kernel_rfl) rfl #[.agg #[.slice Ai (Ak.length + i) ci, .int .i64 tMax], .bool true, .int .i64 ra, .int .i64 rz] (by rfl) rfl rfl (by (try simp only [List.map_toArray, List.map_cons, List.map_nil]); first | done | rfl) ?_
                                        refine (pdone HPbd.out.avk true ra rz (by rw [tru_len Ak Ro hi]; omega) hbb).mono ?_
                                        rintro e Wc ⟨uc, rfl, huc, kc⟩
                                        obtain ⟨Ac, cc, euc⟩ := Kd.R_slice huc.row
                                        rw [hlc] at euc
                                        subst euc
                                        have HUC := Aside0.mk huc
                                        have HKC : Aside0 (Kp Wb Wc (fun _ => False)) := ⟨((Kp.refl Wb _).drew).then_ kc (fun _ h => .inl h)⟩
                                        have HPc := Aside0.mk (HPb.out.stay HKC.out)
                                        clear huc kc
                                        refine ⟨_, rfl, ?_⟩
                                        refine hK.out _ _ HKC.out (fun hHeld => ?_)
                                        clear hK K
                                        refine norm_ (a' := ?_) ?_ ?_
                                        rotate_left
                                        · show Act.put _ (some 151) _ = _
                                          simp only [Act.put, List.setIfInBounds_toArray, List.set_cons_zero, List.set_cons_succ]
                                          rfl
                                        as_aux_lemma =>
                                          clear c0 c1 c2 c3 c4 c5
                                          obtain ⟨c0, c1, c2, c3, c4, c5⟩ := HPc.out.cells hk
                                          have f2 := blk_frozen HPc.out.refs (k * 2)
                                          have f3 := blk_frozen HPc.out.refs (k * 2 + 1)
                                          refine pure_ (i := 11) (N := (some 152)) (v := ?_) (a' := ?_) #[true, true, true, true, true, true, true, true, true, true, true, true, false] rfl rfl (by kernel_rfl) (fun _ _ _ h => h) (Or.inl ⟨by rfl, ?_⟩) ?_ ?_
                                          rotate_left
                                          · intro w'
                                            go_simp
                                            with_reducible rfl
                                          rotate_left
                                          · simp only [Act.put, List.setIfInBounds_toArray, List.set_cons_zero, List.set_cons_succ]
                                            rfl
                                          refine last_ (i := 12) (N := none) #[true, true, true, true, true, true, true, true, true, true, true, true, true] rfl rfl (by kernel_rfl) (by decide) (fun K hK => ?_)
                                          refine skip_ (w1 := ?_) (by rfl) rfl ?_ ?_
                                          rotate_left
                                          · go_simp
                                            rfl
                                          refine hK.out _ _ ?_
                                          clear hK K
                                          refine done_ (by kernel_rfl) ?_
                                          refine NoPanic.normal ?_
                                          as_aux_lemma =>
                                            have HPe := Aside0.mk (HPc.out.ref hk HUC.out rfl)
                                            have HKe := Aside0.mk (((H2.out.then_ kb (fun _ h => h.elim)).then_ HKC.out (fun _ h => h.elim)).then_ ((kp_put (g := sb + 1) (i := k * 2) (.slice Ac (Ak.length + i + 1) cc)).then_ (kp_put (g := sb + 1) (i := k * 2 + 1) (.int .i64 tMax)) (fun _ hk => .inl hk)) (fun _ hq => .inl hq))
                                            rw [← hra, ← hrz, tru_snoc Ak Ro hki] at HPe
                                            generalize (Wc.setCell ⟨sb + 1, k * 2, none⟩ (.slice Ac (Ak.length + i + 1) cc)).setCell ⟨sb + 1, k * 2 + 1, none⟩ (.int .i64 tMax) = We at HPe HKe ⊢
                                            go_wp2
                                            exact ⟨⟨i + 1, by omega, by go_num, ⟨⟨_, HPe.out⟩⟩, HKe⟩, by simp [intOf]; omega⟩
                                      · have hkz : ¬ (i : Int) < Ro.length := by omega
                                        obtain rfl : i = Ro.length := by omega
                                        rw [List.take_length] at HPi
                                        go_upto_region 30 with fail
                                        have K0 : Kp wz wz.drew (fun q => q = pk) := (Kp.refl _ _).drew
                                        have HPd := Aside0.mk (HPi.out.stay ((Kp.refl _ _).drew))
                                        have hbd : w.heap.size ≤ wz.drew.heap.size := HPd.out.kept.size
                                        obtain ⟨c0, c1, c2, c3, c4, c5⟩ := HPi.out.cells hk
                                        have HKz : Aside0 (Kp W6 wz (fun q => q = sb + 1 ∨ q = pk)) := ⟨(HK7.out.mono (fun _ h => h.elim)).then_ H2.out (fun _ h => .inl (.inl h))⟩
                                        have hla : (Ak ++ tru Ro).length ≤ 2199023255552 := by rw [List.length_append, tru, List.length_map]; omega
                                        refine wp_region_noPanic ?_
                                        refine start_ (n := 19) (S := fun w' => Kp wz w' (fun q => q = pk)) (ds := []) #[false, false, false, false, false, false, false, false, false, false, false, false, false, false, false, false, false, false, false] (by kernel_rfl) rfl rfl K0 (fun hHeld => ?_)
                                        refine pure_ (i := 0) (N := (some 154)) (v := ?_) (a' := ?_) #[true, false, false, false, false, false, false, false, false, false, false, false, false, false, false, false, false, false, false] rfl rfl (by kernel_rfl) (fun _ _ _ h => h) (Or.inl ⟨by rfl, ?_⟩) ?_ ?_
                                        rotate_left
                                        · intro w'
                                          go_simp
                                          with_reducible rfl
                                        rotate_left
                                        · simp only [Act.put, List.setIfInBounds_toArray, List.set_cons_zero, List.set_cons_succ]
                                          rfl
                                        refine pure_ (i := 1) (N := (some 155)) (v := ?_) (a' := ?_) #[true, true, false, false, false, false, false, false, false, false, false, false, false, false, false, false, false, false, false] rfl rfl (by kernel_rfl) (fun _ _ _ h => h) (Or.inl ⟨by rfl, ?_⟩) ?_ ?_
                                        rotate_left
                                        · intro w'
                                          go_simp
                                          with_reducible rfl
                                        rotate_left
                                        · simp only [Act.put, List.setIfInBounds_toArray, List.set_cons_zero, List.set_cons_succ]
                                          rfl
                                        refine pure_ (i := 3) (N := (some 157)) (v := ?_) (a' := ?_) #[true, true, false, true, false, false, false, false, false, false, false, false, false, false, false, false, false, false, false] rfl rfl (by kernel_rfl) (fun _ _ _ h => h) (Or.inl ⟨by rfl, ?_⟩) ?_ ?_
                                        rotate_left
                                        · intro w'
                                          go_simp
                                          with_reducible rfl
                                        rotate_left
                                        · simp only [Act.put, List.setIfInBounds_toArray, List.set_cons_zero, List.set_cons_succ]
                                          rfl
                                        refine pure_ (i := 4) (N := (some 158)) (v := ?_) (a' := ?_) #[true, true, false, true, true, false, false, false, false, false, false, false, false, false, false, false, false, false, false] rfl rfl (by kernel_rfl) (fun _ _ _ h => h) (Or.inl ⟨by rfl, ?_⟩) ?_ ?_
                                        rotate_left
                                        · intro w'
                                          go_simp
                                          with_reducible rfl
                                        rotate_left
                                        · simp only [Act.put, List.setIfInBounds_toArray, List.set_cons_zero, List.set_cons_succ]
                                          rfl
                                        refine pure_ (i := 5) (N := (some 159)) (v := ?_) (a' := ?_) #[true, true, false, true, true, true, false, false, false, false, false, false, false, false, false, false, false, false, false] rfl rfl (by kernel_rfl) (fun _ _ _ h => h) (Or.inl ⟨by rfl, ?_⟩) ?_ ?_
                                        rotate_left
                                        · intro w'
                                          go_simp
                                          with_reducible rfl
                                        rotate_left
                                        · simp only [Act.put, List.setIfInBounds_toArray, List.set_cons_zero, List.set_cons_succ]
                                          rfl
                                        refine pure_ (i := 6) (N := (some 160)) (v := ?_) (a' := ?_) #[true, true, false, true, true, true, true, false, false, false, false, false, false, false, false, false, false, false, false] rfl rfl (by kernel_rfl) (fun _ _ _ h => h) (Or.inl ⟨by rfl, ?_⟩) ?_ ?_
                                        rotate_left
                                        · intro w'
                                          go_simp
                                          with_reducible rfl
                                        rotate_left
                                        · simp only [Act.put, List.setIfInBounds_toArray, List.set_cons_zero, List.set_cons_succ]
                                          rfl
                                        refine take_ (i := 7) (N := (some 161)) (v := ?_) (a' := ?_) #[true, true, false, true, true, true, true, true, false, false, false, false, false, false, false, false, false, false, false] rfl rfl (by kernel_rfl) (fun _ _ _ h => h) (Or.inl ⟨by rfl, ?_⟩) hHeld ?_ ?_
                                        rotate_left
                                        · intro w' hK
                                          have s2 := cell_kp c2 hK hrbp
                                          have s3 := cell_kp c3 hK hrbp
                                          go_simp
                                          with_reducible rfl
                                        rotate_left
                                        · simp only [Act.put, List.setIfInBounds_toArray, List.set_cons_zero, List.set_cons_succ]
                                          rfl
                                        refine one_ (i := 2) (N := (some 156)) #[true, true, true, true, true, true, true, true, false, false, false, false, false, false, false, false, false, false, false] rfl rfl (by kernel_rfl) (by decide) (fun K hK => ?_)
                                        refine goes_ Try.func54 (by kernel_rfl) rfl #[.pointer (some ⟨pk, 0, none⟩), .pointer (some ⟨po, 0, none⟩)] (by rfl) rfl rfl (by (try simp only [List.map_toArray, List.map_cons, List.map_nil]); first | done | rfl) ?_
                                        refine (join_calls HPd.out.setk HPd.out.seto (by omega) hbd).mono ?_
                                        rintro e Wa ⟨b1, R2, sk2, rfl, hset, hm, hlen2, hb1, ka⟩
                                        have HPa := Aside0.mk (HPd.out.wrote ka hset)
                                        have HKa : Aside0 (Kp wz Wa (fun q => q = pk)) := ⟨K0.then_ ka (fun _ hq => .inl hq)⟩
                                        have HREL := Aside0.mk (Rel.joined HR.out.relk HR.out.relo.good hset.good hm)
                                        have hdec : decide (Rk = R2) = !b1 := by
                                          cases b1 with
                                          | true => simpa using fun h => (hb1.1 rfl) h.symm
                                          | false =>
                                            by_cases h : Rk = R2
                                            · simp [h]
                                            · exact absurd (hb1.2 (Ne.symm h)) (by simp)
                                        clear hm hset ka
                                        refine ⟨_, rfl, ?_⟩
                                        refine hK.out _ _ HKa.out (fun hHeld => ?_)
                                        clear hK K
                                        refine norm_ (a' := ?_) ?_ ?_
                                        rotate_left
                                        · show Act.put _ (some 156) _ = _
                                          simp only [Act.put, List.setIfInBounds_toArray, List.set_cons_zero, List.set_cons_succ]
                                          rfl
                                        as_aux_lemma =>
                                          refine one_ (i := 8) (N := (some 162)) #[true, true, true, true, true, true, true, true, true, false, false, false, false, false, false, false, false, false, false] rfl rfl (by kernel_rfl) (by decide) (fun K hK => ?_)
                                          refine goes_ Try.func38 (by kernel_rfl) rfl #[.agg #[.slice Ai (Ak.length + Ro.length) ci, .int .i64 tMax]] (by rfl) rfl rfl (by (try simp only [List.map_toArray, List.map_cons, List.map_nil]); first | done | rfl) ?_
                                          refine (pruns2 HPa.out.avk HREL.out hla).mono ?_
                                          rintro e Wf ⟨uf, rfl, huf, kf⟩
                                          obtain ⟨Af, cf, euf⟩ := Kd.R_slice huf
                                          rw [ofR_len] at euf
                                          subst euf
                                          have HUf := Aside0.mk (RV.of_row huf (Kp.refl _ (fun _ => False)) (fun _ h => h.elim))
                                          have HKf : Aside0 (Kp wz Wf (fun q => q = pk)) := ⟨HKa.out.then_ kf (fun _ h => h.elim)⟩
                                          have HWf := Aside0.mk (RV.of_row HW.out (HKz.out.then_ HKf.out (fun _ h => .inl (.inr h))) (fun q hq => by rcases hq with rfl | rfl <;> omega))
                                          have HPf := Aside0.mk (HPa.out.stay kf)
                                          clear huf kf
                                          refine ⟨_, rfl, ?_⟩
                                          refine hK.out _ _ HKf.out (fun hHeld => ?_)
                                          clear hK K
                                          refine norm_ (a' := ?_) ?_ ?_
                                          rotate_left
                                          · show Act.put _ (some 162) _ = _
                                            simp only [Act.put, List.setIfInBounds_toArray, List.set_cons_zero, List.set_cons_succ]
                                            rfl
                                          as_aux_lemma =>
                                            refine one_ (i := 9) (N := (some 163)) #[true, true, true, true, true, true, true, true, true, true, false, false, false, false, false, false, false, false, false] rfl rfl (by kernel_rfl) (by decide) (fun K hK => ?_)
                                            refine goes_ Try.func21 (by kernel_rfl) rfl #[.slice Aw Rk.length cw, .slice Af R2.length cf] (by rfl) rfl rfl (by (try simp only [List.map_toArray, List.map_cons, List.map_nil]); first | done | rfl) ?_
                                            refine (psame HWf.out HUf.out (by omega)).mono ?_
                                            rw [hdec]
                                            rintro e Wg ⟨rfl, kg⟩
                                            have HKg : Aside0 (Kp wz Wg (fun q => q = pk)) := ⟨HKf.out.then_ kg (fun _ h => h.elim)⟩
                                            have HPg := Aside0.mk (HPf.out.stay kg)
                                            have hbg : w.heap.size ≤ Wg.heap.size := HPg.out.kept.size
                                            clear kg
                                            refine ⟨_, rfl, ?_⟩
                                            refine hK.out _ _ HKg.out (fun hHeld => ?_)
                                            clear hK K
                                            refine norm_ (a' := ?_) ?_ ?_
                                            rotate_left
                                            · show Act.put _ (some 163) _ = _
                                              simp only [Act.put, List.setIfInBounds_toArray, List.set_cons_zero, List.set_cons_succ]
                                              rfl
                                            as_aux_lemma =>
                                              refine pure_ (i := 10) (N := (some 164)) (v := ?_) (a' := ?_) #[true, true, true, true, true, true, true, true, true, true, true, false, false, false, false, false, false, false, false] rfl rfl (by kernel_rfl) (fun _ _ _ h => h) (Or.inl ⟨by rfl, ?_⟩) ?_ ?_
                                              rotate_left
                                              · intro w'
                                                go_simp
                                                with_reducible rfl
                                              rotate_left
                                              · simp only [Act.put, List.setIfInBounds_toArray, List.set_cons_zero, List.set_cons_succ]
                                                rfl
                                              refine pure_ (i := 11) (N := (some 165)) (v := .bool true) (a' := ?_) #[true, true, true, true, true, true, true, true, true, true, true, true, false, false, false, false, false, false, false] rfl rfl (by kernel_rfl) (fun _ _ _ h => h) (Or.inl ⟨by rfl, ?_⟩) ?_ ?_
                                              · intro w'
                                                go_simp
                                                try simp
                                              rotate_left
                                              · simp only [Act.put, List.setIfInBounds_toArray, List.set_cons_zero, List.set_cons_succ]
                                                rfl
                                              refine pure_ (i := 12) (N := (some 166)) (v := ?_) (a' := ?_) #[true, true, true, true, true, true, true, true, true, true, true, true, true, false, false, false, false, false, false] rfl rfl (by kernel_rfl) (fun _ _ _ h => h) (Or.inl ⟨by rfl, ?_⟩) ?_ ?_
                                              rotate_left
                                              · intro w'
                                                go_simp
                                                with_reducible rfl
                                              rotate_left
                                              · simp only [Act.put, List.setIfInBounds_toArray, List.set_cons_zero, List.set_cons_succ]
                                                rfl
                                              refine pure_ (i := 13) (N := (some 167)) (v := ?_) (a' := ?_) #[true, true, true, true, true, true, true, true, true, true, true, true, true, true, false, false, false, false, false] rfl rfl (by kernel_rfl) (fun _ _ _ h => h) (Or.inl ⟨by rfl, ?_⟩) ?_ ?_
                                              rotate_left
                                              · intro w'
                                                go_simp
                                                with_reducible rfl
                                              rotate_left
                                              · simp only [Act.put, List.setIfInBounds_toArray, List.set_cons_zero, List.set_cons_succ]
                                                rfl
                                              refine pure_ (i := 14) (N := (some 168)) (v := ?_) (a' := ?_) #[true, true, true, true, true, true, true, true, true, true, true, true, true, true, true, false, false, false, false] rfl rfl (by kernel_rfl) (fun _ _ _ h => h) (Or.inl ⟨by rfl, ?_⟩) ?_ ?_
                                              rotate_left
                                              · intro w'
                                                go_simp
                                                with_reducible rfl
                                              rotate_left
                                              · simp only [Act.put, List.setIfInBounds_toArray, List.set_cons_zero, List.set_cons_succ]
                                                rfl
                                              refine one_ (i := 15) (N := (some 169)) #[true, true, true, true, true, true, true, true, true, true, true, true, true, true, true, true, false, false, false] rfl rfl (by kernel_rfl) (by decide) (fun K hK => ?_)
                                              refine goes_ Try.func54 (by kernel_rfl) rfl #[.pointer (some ⟨pk, 0, none⟩), .pointer (some ⟨pk, 0, none⟩)] (by rfl) rfl rfl (by (try simp only [List.map_toArray, List.map_cons, List.map_nil]); first | done | rfl) ?_
                                              refine (join_calls HPg.out.setk HPg.out.setk (by omega) hbg).mono ?_
                                              rintro e Wh ⟨b2, R3, sk3, rfl, hset3, hm3, -, hb3, kh⟩
                                              obtain rfl : R3 = R2 := Good.unique hset3.good HPg.out.setk.good (fun x => (hm3 x).trans ⟨fun h => h.elim id id, .inl⟩)
                                              obtain rfl : b2 = false := by
                                                cases b2 with
                                                | true => exact absurd rfl (hb3.1 rfl)
                                                | false => rfl
                                              have HPh := Aside0.mk (HPg.out.wrote kh hset3)
                                              have HKh : Aside0 (Kp wz Wh (fun q => q = pk)) := ⟨HKg.out.then_ kh (fun _ hq => .inl hq)⟩
                                              clear hset3 hm3 hb3 kh
                                              refine ⟨_, rfl, ?_⟩
                                              refine hK.out _ _ HKh.out (fun hHeld => ?_)
                                              clear hK K
                                              refine norm_ (a' := ?_) ?_ ?_
                                              rotate_left
                                              · show Act.put _ (some 169) _ = _
                                                simp only [Act.put, List.setIfInBounds_toArray, List.set_cons_zero, List.set_cons_succ]
                                                rfl
                                              as_aux_lemma =>
                                                refine pure_ (i := 16) (N := (some 170)) (v := ?_) (a' := ?_) #[true, true, true, true, true, true, true, true, true, true, true, true, true, true, true, true, true, false, false] rfl rfl (by kernel_rfl) (fun _ _ _ h => h) (Or.inl ⟨by rfl, ?_⟩) ?_ ?_
                                                rotate_left
                                                · intro w'
                                                  go_simp
                                                  with_reducible rfl
                                                rotate_left
                                                · simp only [Act.put, List.setIfInBounds_toArray, List.set_cons_zero, List.set_cons_succ]
                                                  rfl
                                                refine pure_ (i := 17) (N := (some 171)) (v := ?_) (a' := ?_) #[true, true, true, true, true, true, true, true, true, true, true, true, true, true, true, true, true, true, false] rfl rfl (by kernel_rfl) (fun _ _ _ h => h) (Or.inl ⟨by rfl, ?_⟩) ?_ ?_
                                                rotate_left
                                                · intro w'
                                                  go_simp
                                                  with_reducible rfl
                                                rotate_left
                                                · simp only [Act.put, List.setIfInBounds_toArray, List.set_cons_zero, List.set_cons_succ]
                                                  rfl
                                                refine pure_ (i := 18) (N := (some 19)) (v := ?_) (a' := ?_) #[true, true, true, true, true, true, true, true, true, true, true, true, true, true, true, true, true, true, true] rfl rfl (by kernel_rfl) (fun _ _ _ h => h) (Or.inl ⟨by rfl, ?_⟩) ?_ ?_
                                                rotate_left
                                                · intro w'
                                                  go_simp
                                                  with_reducible rfl
                                                rotate_left
                                                · simp only [Act.put, List.setIfInBounds_toArray, List.set_cons_zero, List.set_cons_succ]
                                                  rfl
                                                refine done_ (by kernel_rfl) ?_
                                                refine NoPanic.normal ?_
                                                as_aux_lemma =>
                                                  have hpu := pow_up n
                                                  go_wp2
                                                  go_meet
                                                  exact ⟨rfl, ⟨⟨_, _, _, _, _, _, _, _, _, HPh.out, ⟨HREL.out, HR.out.relo, ⟨by have := HR.out.lenk.1; have := HR.out.leno.1; omega, by have := HR.out.lenk.2; have := HR.out.leno.1; rw [List.length_append, tru, List.length_map]; omega⟩, by have := HR.out.leno; omega⟩⟩⟩⟩
                                have e3 : (kd == 3) = false := by simpa using hk3
                                by_cases hk4 : kd = 4
                                · subst hk4
                                  as_aux_lemma =>
                                    have m0 : W6.cell? ⟨mb, 0, none⟩ = some (.slice Av Ak.length cv) := (blk_cell HM6.out.1 0).trans rfl
                                    have m1 : W6.cell? ⟨mb, 1, none⟩ = some (.int .i64 tMax) := (blk_cell HM6.out.1 1).trans rfl
                                    go_upto_region 32 with fail
                                    refine wp_region_noPanic ?_
                                    refine start_ (n := 8) (S := fun w' => Kp W6 w' (fun _ => False)) (ds := []) #[false, false, false, false, false, false, false, false] (by kernel_rfl) rfl rfl ((Kp.refl _ _).drew) (fun hHeld => ?_)
                                    refine pure_ (i := 0) (N := (some 174)) (v := ?_) (a' := ?_) #[true, false, false, false, false, false, false, false] rfl rfl (by kernel_rfl) (fun _ _ _ h => h) (Or.inl ⟨by rfl, ?_⟩) ?_ ?_
                                    rotate_left
                                    · intro w'
                                      go_simp
                                      with_reducible rfl
                                    rotate_left
                                    · simp only [Act.put, List.setIfInBounds_toArray, List.set_cons_zero, List.set_cons_succ]
                                      rfl
                                    refine pure_ (i := 1) (N := (some 175)) (v := ?_) (a' := ?_) #[true, true, false, false, false, false, false, false] rfl rfl (by kernel_rfl) (fun _ _ _ h => h) (Or.inl ⟨by rfl, ?_⟩) ?_ ?_
                                    rotate_left
                                    · intro w'
                                      go_simp
                                      with_reducible rfl
                                    rotate_left
                                    · simp only [Act.put, List.setIfInBounds_toArray, List.set_cons_zero, List.set_cons_succ]
                                      rfl
                                    refine pure_ (i := 4) (N := (some 178)) (v := ?_) (a' := ?_) #[true, true, false, false, true, false, false, false] rfl rfl (by kernel_rfl) (fun _ _ _ h => h) (Or.inl ⟨by rfl, ?_⟩) ?_ ?_
                                    rotate_left
                                    · intro w'
                                      go_simp
                                      with_reducible rfl
                                    rotate_left
                                    · simp only [Act.put, List.setIfInBounds_toArray, List.set_cons_zero, List.set_cons_succ]
                                      rfl
                                    refine take_ (i := 3) (N := (some 177)) (v := ?_) (a' := ?_) #[true, true, false, true, true, false, false, false] rfl rfl (by kernel_rfl) (fun _ _ _ h => h) (Or.inl ⟨by rfl, ?_⟩) hHeld ?_ ?_
                                    rotate_left
                                    · intro w' hK
                                      have s0 := cell_kp m0 hK (fun h => h)
                                      have s1 := cell_kp m1 hK (fun h => h)
                                      go_simp
                                      with_reducible rfl
                                    rotate_left
                                    · simp only [Act.put, List.setIfInBounds_toArray, List.set_cons_zero, List.set_cons_succ]
                                      rfl
                                    refine one_ (i := 2) (N := (some 176)) #[true, true, true, true, true, false, false, false] rfl rfl (by kernel_rfl) (by decide) (fun K hK => ?_)
                                    refine goes_ Try.func55 (by kernel_rfl) rfl #[.pointer (some ⟨pk, 0, none⟩), .int .i8 a] (by rfl) rfl rfl (by (try simp only [List.map_toArray, List.map_cons, List.map_nil]); first | done | rfl) ?_
                                    refine (has_calls (HP6.out.setk.stay ((Kp.refl _ _).drew)) a (by omega)).mono ?_
                                    rintro e W7 ⟨rfl, k7⟩
                                    have HK7 : Aside0 (Kp W6 W7 (fun _ => False)) := ⟨((Kp.refl W6 _).drew).then_ k7 (fun _ h => .inl h)⟩
                                    have HP7 := Aside0.mk (HP6.out.stay HK7.out)
                                    clear k7
                                    refine ⟨_, rfl, ?_⟩
                                    refine hK.out _ _ HK7.out (fun hHeld => ?_)
                                    clear hK K
                                    refine norm_ (a' := ?_) ?_ ?_
                                    rotate_left
                                    · show Act.put _ (some 176) _ = _
                                      simp only [Act.put, List.setIfInBounds_toArray, List.set_cons_zero, List.set_cons_succ]
                                      rfl
                                    as_aux_lemma =>
                                      refine one_ (i := 5) (N := (some 179)) #[true, true, true, true, true, true, false, false] rfl rfl (by kernel_rfl) (by decide) (fun K hK => ?_)
                                      refine goes_ Try.func41 (by kernel_rfl) rfl #[.agg #[.slice Av Ak.length cv, .int .i64 tMax], .int .i64 a] (by rfl) rfl rfl (by (try simp only [List.map_toArray, List.map_cons, List.map_nil]); first | done | rfl) ?_
                                      refine (phas HP7.out.avk HR.out.relk hlk a HA.out.2).mono ?_
                                      rintro e W8 ⟨rfl, k8⟩
                                      have HK8 : Aside0 (Kp W6 W8 (fun _ => False)) := ⟨HK7.out.then_ k8 (fun _ h => .inl h)⟩
                                      clear k8
                                      refine ⟨_, rfl, ?_⟩
                                      refine hK.out _ _ HK8.out (fun hHeld => ?_)
                                      clear hK K
                                      refine norm_ (a' := ?_) ?_ ?_
                                      rotate_left
                                      · show Act.put _ (some 179) _ = _
                                        simp only [Act.put, List.setIfInBounds_toArray, List.set_cons_zero, List.set_cons_succ]
                                        rfl
                                      as_aux_lemma =>
                                        refine pure_ (i := 6) (N := (some 180)) (v := .bool true) (a' := ?_) #[true, true, true, true, true, true, true, false] rfl rfl (by kernel_rfl) (fun _ _ _ h => h) (Or.inl ⟨by rfl, ?_⟩) ?_ ?_
                                        · intro w'
                                          go_simp
                                          try simp
                                        rotate_left
                                        · simp only [Act.put, List.setIfInBounds_toArray, List.set_cons_zero, List.set_cons_succ]
                                          rfl
                                        refine pure_ (i := 7) (N := (some 19)) (v := ?_) (a' := ?_) #[true, true, true, true, true, true, true, true] rfl rfl (by kernel_rfl) (fun _ _ _ h => h) (Or.inl ⟨by rfl, ?_⟩) ?_ ?_
                                        rotate_left
                                        · intro w'
                                          go_simp
                                          with_reducible rfl
                                        rotate_left
                                        · simp only [Act.put, List.setIfInBounds_toArray, List.set_cons_zero, List.set_cons_succ]
                                          rfl
                                        refine done_ (by kernel_rfl) ?_
                                        refine NoPanic.normal ?_
                                        as_aux_lemma =>
                                          go_wp2
                                          go_meet
                                          exact ⟨rfl, ⟨⟨_, _, _, _, _, _, _, _, _, (HP6.out.stay HK8.out), HR.out.up⟩⟩⟩
                                have e4 : (kd == 4) = false := by simpa using hk4
                                by_cases hk5 : kd = 5
                                · subst hk5
                                  as_aux_lemma =>
                                    have m0 : W6.cell? ⟨mb, 0, none⟩ = some (.slice Av Ak.length cv) := (blk_cell HM6.out.1 0).trans rfl
                                    have m1 : W6.cell? ⟨mb, 1, none⟩ = some (.int .i64 tMax) := (blk_cell HM6.out.1 1).trans rfl
                                    go_upto_region 34 with fail
                                    refine wp_region_noPanic ?_
                                    refine start_ (n := 10) (S := fun w' => Kp W6 w' (fun _ => False)) (ds := []) #[false, false, false, false, false, false, false, false, false, false] (by kernel_rfl) rfl rfl ((Kp.refl _ _).drew) (fun hHeld => ?_)
                                    refine pure_ (i := 0) (N := (some 183)) (v := ?_) (a' := ?_) #[true, false, false, false, false, false, false, false, false, false] rfl rfl (by kernel_rfl) (fun _ _ _ h => h) (Or.inl ⟨by rfl, ?_⟩) ?_ ?_
                                    rotate_left
                                    · intro w'
                                      go_simp
                                      with_reducible rfl
                                    rotate_left
                                    · simp only [Act.put, List.setIfInBounds_toArray, List.set_cons_zero, List.set_cons_succ]
                                      rfl
                                    refine pure_ (i := 1) (N := (some 184)) (v := ?_) (a' := ?_) #[true, true, false, false, false, false, false, false, false, false] rfl rfl (by kernel_rfl) (fun _ _ _ h => h) (Or.inl ⟨by rfl, ?_⟩) ?_ ?_
                                    rotate_left
                                    · intro w'
                                      go_simp
                                      with_reducible rfl
                                    rotate_left
                                    · simp only [Act.put, List.setIfInBounds_toArray, List.set_cons_zero, List.set_cons_succ]
                                      rfl
                                    refine pure_ (i := 2) (N := (some 185)) (v := ?_) (a' := ?_) #[true, true, true, false, false, false, false, false, false, false] rfl rfl (by kernel_rfl) (fun _ _ _ h => h) (Or.inl ⟨by rfl, ?_⟩) ?_ ?_
                                    rotate_left
                                    · intro w'
                                      go_simp
                                      with_reducible rfl
                                    rotate_left
                                    · simp only [Act.put, List.setIfInBounds_toArray, List.set_cons_zero, List.set_cons_succ]
                                      rfl
                                    refine pure_ (i := 5) (N := (some 188)) (v := ?_) (a' := ?_) #[true, true, true, false, false, true, false, false, false, false] rfl rfl (by kernel_rfl) (fun _ _ _ h => h) (Or.inl ⟨by rfl, ?_⟩) ?_ ?_
                                    rotate_left
                                    · intro w'
                                      go_simp
                                      with_reducible rfl
                                    rotate_left
                                    · simp only [Act.put, List.setIfInBounds_toArray, List.set_cons_zero, List.set_cons_succ]
                                      rfl
                                    refine pure_ (i := 6) (N := (some 189)) (v := ?_) (a' := ?_) #[true, true, true, false, false, true, true, false, false, false] rfl rfl (by kernel_rfl) (fun _ _ _ h => h) (Or.inl ⟨by rfl, ?_⟩) ?_ ?_
                                    rotate_left
                                    · intro w'
                                      go_simp
                                      with_reducible rfl
                                    rotate_left
                                    · simp only [Act.put, List.setIfInBounds_toArray, List.set_cons_zero, List.set_cons_succ]
                                      rfl
                                    refine take_ (i := 4) (N := (some 187)) (v := ?_) (a' := ?_) #[true, true, true, false, true, true, true, false, false, false] rfl rfl (by kernel_rfl) (fun _ _ _ h => h) (Or.inl ⟨by rfl, ?_⟩) hHeld ?_ ?_
                                    rotate_left
                                    · intro w' hK
                                      have s0 := cell_kp m0 hK (fun h => h)
                                      have s1 := cell_kp m1 hK (fun h => h)
                                      go_simp
                                      with_reducible rfl
                                    rotate_left
                                    · simp only [Act.put, List.setIfInBounds_toArray, List.set_cons_zero, List.set_cons_succ]
                                      rfl
                                    refine one_ (i := 3) (N := (some 186)) #[true, true, true, true, true, true, true, false, false, false] rfl rfl (by kernel_rfl) (by decide) (fun K hK => ?_)
                                    refine goes_ Try.func56 (by kernel_rfl) rfl #[.pointer (some ⟨pk, 0, none⟩), .int .i8 a, .int .i8 b] (by rfl) rfl rfl (by (try simp only [List.map_toArray, List.map_cons, List.map_nil]); first | done | rfl) ?_
                                    refine (holds_calls (HP6.out.setk.stay ((Kp.refl _ _).drew)) a b (by omega)).mono ?_
                                    rintro e W7 ⟨rfl, k7⟩
                                    have HK7 : Aside0 (Kp W6 W7 (fun _ => False)) := ⟨((Kp.refl W6 _).drew).then_ k7 (fun _ h => .inl h)⟩
                                    have HP7 := Aside0.mk (HP6.out.stay HK7.out)
                                    clear k7
                                    refine ⟨_, rfl, ?_⟩
                                    refine hK.out _ _ HK7.out (fun hHeld => ?_)
                                    clear hK K
                                    refine norm_ (a' := ?_) ?_ ?_
                                    rotate_left
                                    · show Act.put _ (some 186) _ = _
                                      simp only [Act.put, List.setIfInBounds_toArray, List.set_cons_zero, List.set_cons_succ]
                                      rfl
                                    as_aux_lemma =>
                                      refine one_ (i := 7) (N := (some 190)) #[true, true, true, true, true, true, true, true, false, false] rfl rfl (by kernel_rfl) (by decide) (fun K hK => ?_)
                                      refine goes_ Try.func43 (by kernel_rfl) rfl #[.agg #[.slice Av Ak.length cv, .int .i64 tMax], .int .i64 a, .int .i64 b] (by rfl) rfl rfl (by (try simp only [List.map_toArray, List.map_cons, List.map_nil]); first | done | rfl) ?_
                                      refine (pholds HP7.out.avk HR.out.relk hlk (by omega) a b).mono ?_
                                      rintro e W8 ⟨rfl, k8⟩
                                      have HK8 : Aside0 (Kp W6 W8 (fun _ => False)) := ⟨HK7.out.then_ k8 (fun _ h => .inl h)⟩
                                      clear k8
                                      refine ⟨_, rfl, ?_⟩
                                      refine hK.out _ _ HK8.out (fun hHeld => ?_)
                                      clear hK K
                                      refine norm_ (a' := ?_) ?_ ?_
                                      rotate_left
                                      · show Act.put _ (some 190) _ = _
                                        simp only [Act.put, List.setIfInBounds_toArray, List.set_cons_zero, List.set_cons_succ]
                                        rfl
                                      as_aux_lemma =>
                                        refine pure_ (i := 8) (N := (some 191)) (v := .bool true) (a' := ?_) #[true, true, true, true, true, true, true, true, true, false] rfl rfl (by kernel_rfl) (fun _ _ _ h => h) (Or.inl ⟨by rfl, ?_⟩) ?_ ?_
                                        · intro w'
                                          go_simp
                                          try simp
                                        rotate_left
                                        · simp only [Act.put, List.setIfInBounds_toArray, List.set_cons_zero, List.set_cons_succ]
                                          rfl
                                        refine pure_ (i := 9) (N := (some 19)) (v := ?_) (a' := ?_) #[true, true, true, true, true, true, true, true, true, true] rfl rfl (by kernel_rfl) (fun _ _ _ h => h) (Or.inl ⟨by rfl, ?_⟩) ?_ ?_
                                        rotate_left
                                        · intro w'
                                          go_simp
                                          with_reducible rfl
                                        rotate_left
                                        · simp only [Act.put, List.setIfInBounds_toArray, List.set_cons_zero, List.set_cons_succ]
                                          rfl
                                        refine done_ (by kernel_rfl) ?_
                                        refine NoPanic.normal ?_
                                        as_aux_lemma =>
                                          go_wp2
                                          go_meet
                                          exact ⟨rfl, ⟨⟨_, _, _, _, _, _, _, _, _, (HP6.out.stay HK8.out), HR.out.up⟩⟩⟩
                                have e5 : (kd == 5) = false := by simpa using hk5
                                by_cases hk6 : kd = 6
                                · subst hk6
                                  as_aux_lemma =>
                                    have m0 : W6.cell? ⟨mb, 0, none⟩ = some (.slice Av Ak.length cv) := (blk_cell HM6.out.1 0).trans rfl
                                    have m1 : W6.cell? ⟨mb, 1, none⟩ = some (.int .i64 tMax) := (blk_cell HM6.out.1 1).trans rfl
                                    go_upto_region 36 with fail
                                    refine wp_region_noPanic ?_
                                    refine start_ (n := 10) (S := fun w' => Kp W6 w' (fun _ => False)) (ds := []) #[false, false, false, false, false, false, false, false, false, false] (by kernel_rfl) rfl rfl ((Kp.refl _ _).drew) (fun hHeld => ?_)
                                    refine pure_ (i := 0) (N := (some 194)) (v := ?_) (a' := ?_) #[true, false, false, false, false, false, false, false, false, false] rfl rfl (by kernel_rfl) (fun _ _ _ h => h) (Or.inl ⟨by rfl, ?_⟩) ?_ ?_
                                    rotate_left
                                    · intro w'
                                      go_simp
                                      with_reducible rfl
                                    rotate_left
                                    · simp only [Act.put, List.setIfInBounds_toArray, List.set_cons_zero, List.set_cons_succ]
                                      rfl
                                    refine pure_ (i := 1) (N := (some 195)) (v := ?_) (a' := ?_) #[true, true, false, false, false, false, false, false, false, false] rfl rfl (by kernel_rfl) (fun _ _ _ h => h) (Or.inl ⟨by rfl, ?_⟩) ?_ ?_
                                    rotate_left
                                    · intro w'
                                      go_simp
                                      with_reducible rfl
                                    rotate_left
                                    · simp only [Act.put, List.setIfInBounds_toArray, List.set_cons_zero, List.set_cons_succ]
                                      rfl
                                    refine pure_ (i := 2) (N := (some 196)) (v := ?_) (a' := ?_) #[true, true, true, false, false, false, false, false, false, false] rfl rfl (by kernel_rfl) (fun _ _ _ h => h) (Or.inl ⟨by rfl, ?_⟩) ?_ ?_
                                    rotate_left
                                    · intro w'
                                      go_simp
                                      with_reducible rfl
                                    rotate_left
                                    · simp only [Act.put, List.setIfInBounds_toArray, List.set_cons_zero, List.set_cons_succ]
                                      rfl
                                    refine pure_ (i := 5) (N := (some 199)) (v := ?_) (a' := ?_) #[true, true, true, false, false, true, false, false, false, false] rfl rfl (by kernel_rfl) (fun _ _ _ h => h) (Or.inl ⟨by rfl, ?_⟩) ?_ ?_
                                    rotate_left
                                    · intro w'
                                      go_simp
                                      with_reducible rfl
                                    rotate_left
                                    · simp only [Act.put, List.setIfInBounds_toArray, List.set_cons_zero, List.set_cons_succ]
                                      rfl
                                    refine pure_ (i := 6) (N := (some 200)) (v := ?_) (a' := ?_) #[true, true, true, false, false, true, true, false, false, false] rfl rfl (by kernel_rfl) (fun _ _ _ h => h) (Or.inl ⟨by rfl, ?_⟩) ?_ ?_
                                    rotate_left
                                    · intro w'
                                      go_simp
                                      with_reducible rfl
                                    rotate_left
                                    · simp only [Act.put, List.setIfInBounds_toArray, List.set_cons_zero, List.set_cons_succ]
                                      rfl
                                    refine take_ (i := 4) (N := (some 198)) (v := ?_) (a' := ?_) #[true, true, true, false, true, true, true, false, false, false] rfl rfl (by kernel_rfl) (fun _ _ _ h => h) (Or.inl ⟨by rfl, ?_⟩) hHeld ?_ ?_
                                    rotate_left
                                    · intro w' hK
                                      have s0 := cell_kp m0 hK (fun h => h)
                                      have s1 := cell_kp m1 hK (fun h => h)
                                      go_simp
                                      with_reducible rfl
                                    rotate_left
                                    · simp only [Act.put, List.setIfInBounds_toArray, List.set_cons_zero, List.set_cons_succ]
                                      rfl
                                    refine one_ (i := 3) (N := (some 197)) #[true, true, true, true, true, true, true, false, false, false] rfl rfl (by kernel_rfl) (by decide) (fun K hK => ?_)
                                    refine goes_ Try.func57 (by kernel_rfl) rfl #[.pointer (some ⟨pk, 0, none⟩), .int .i8 a, .int .i8 b] (by rfl) rfl rfl (by (try simp only [List.map_toArray, List.map_cons, List.map_nil]); first | done | rfl) ?_
                                    refine (meets_calls (HP6.out.setk.stay ((Kp.refl _ _).drew)) a b (by omega)).mono ?_
                                    rintro e W7 ⟨rfl, k7⟩
                                    have HK7 : Aside0 (Kp W6 W7 (fun _ => False)) := ⟨((Kp.refl W6 _).drew).then_ k7 (fun _ h => .inl h)⟩
                                    have HP7 := Aside0.mk (HP6.out.stay HK7.out)
                                    clear k7
                                    refine ⟨_, rfl, ?_⟩
                                    refine hK.out _ _ HK7.out (fun hHeld => ?_)
                                    clear hK K
                                    refine norm_ (a' := ?_) ?_ ?_
                                    rotate_left
                                    · show Act.put _ (some 197) _ = _
                                      simp only [Act.put, List.setIfInBounds_toArray, List.set_cons_zero, List.set_cons_succ]
                                      rfl
                                    as_aux_lemma =>
                                      refine one_ (i := 7) (N := (some 201)) #[true, true, true, true, true, true, true, true, false, false] rfl rfl (by kernel_rfl) (by decide) (fun K hK => ?_)
                                      refine goes_ Try.func45 (by kernel_rfl) rfl #[.agg #[.slice Av Ak.length cv, .int .i64 tMax], .int .i64 a, .int .i64 b] (by rfl) rfl rfl (by (try simp only [List.map_toArray, List.map_cons, List.map_nil]); first | done | rfl) ?_
                                      refine (pmeets HP7.out.avk HR.out.relk hlk (by omega) a b).mono ?_
                                      rintro e W8 ⟨rfl, k8⟩
                                      have HK8 : Aside0 (Kp W6 W8 (fun _ => False)) := ⟨HK7.out.then_ k8 (fun _ h => .inl h)⟩
                                      clear k8
                                      refine ⟨_, rfl, ?_⟩
                                      refine hK.out _ _ HK8.out (fun hHeld => ?_)
                                      clear hK K
                                      refine norm_ (a' := ?_) ?_ ?_
                                      rotate_left
                                      · show Act.put _ (some 201) _ = _
                                        simp only [Act.put, List.setIfInBounds_toArray, List.set_cons_zero, List.set_cons_succ]
                                        rfl
                                      as_aux_lemma =>
                                        refine pure_ (i := 8) (N := (some 202)) (v := .bool true) (a' := ?_) #[true, true, true, true, true, true, true, true, true, false] rfl rfl (by kernel_rfl) (fun _ _ _ h => h) (Or.inl ⟨by rfl, ?_⟩) ?_ ?_
                                        · intro w'
                                          go_simp
                                          try simp
                                        rotate_left
                                        · simp only [Act.put, List.setIfInBounds_toArray, List.set_cons_zero, List.set_cons_succ]
                                          rfl
                                        refine pure_ (i := 9) (N := (some 19)) (v := ?_) (a' := ?_) #[true, true, true, true, true, true, true, true, true, true] rfl rfl (by kernel_rfl) (fun _ _ _ h => h) (Or.inl ⟨by rfl, ?_⟩) ?_ ?_
                                        rotate_left
                                        · intro w'
                                          go_simp
                                          with_reducible rfl
                                        rotate_left
                                        · simp only [Act.put, List.setIfInBounds_toArray, List.set_cons_zero, List.set_cons_succ]
                                          rfl
                                        refine done_ (by kernel_rfl) ?_
                                        refine NoPanic.normal ?_
                                        as_aux_lemma =>
                                          go_wp2
                                          go_meet
                                          exact ⟨rfl, ⟨⟨_, _, _, _, _, _, _, _, _, (HP6.out.stay HK8.out), HR.out.up⟩⟩⟩
                                have e6 : (kd == 6) = false := by simpa using hk6
                                by_cases hk7 : kd = 7
                                · subst hk7
                                  as_aux_lemma =>
                                    cases hnx : nextI Rk a with
                                    | none =>
                                      have HNX := Aside0.mk hnx
                                      clear hnx
                                      go_upto_region 39 with (first
                                        | (go_at_call 58; go_must (refine (next_calls HP6.out.setk a (by omega)).mono ?_); rw [HNX.out, show nextA (none) = .tuple #[.int .i8 0, .bool false] from rfl]; rintro e W7 ⟨rfl, k7⟩; have HK7 := Aside0.mk k7; clear k7))
                                      have HP7 := Aside0.mk (HP6.out.stay HK7.out)
                                      have HM7 := Aside0.mk (blk_kp HM6.out.1 HK7.out (fun h => h))
                                      have m0 : W7.cell? ⟨mb, 0, none⟩ = some (.slice Av Ak.length cv) := (blk_cell HM7.out 0).trans rfl
                                      have m1 : W7.cell? ⟨mb, 1, none⟩ = some (.int .i64 tMax) := (blk_cell HM7.out 1).trans rfl
                                      go_wp2_with (first
                                        | (go_at_call 46; go_must (refine (pnext HP7.out.avk HR.out.relk hlk (by omega) a).mono ?_); rw [HNX.out, show ((none : Option Int)).getD 0 = (0 : Int) from rfl, show (none : Option Int).isSome = false from rfl]; rintro e W8 ⟨rfl, k8⟩; have HK8 := Aside0.mk k8; clear k8))
                                      go_meet
                                      exact ⟨rfl, ⟨⟨_, _, _, _, _, _, _, _, _, (HP7.out.stay HK8.out), HR.out.up⟩⟩⟩
                                    | some y =>
                                      obtain ⟨hmy, -, -⟩ := nextI_some HP6.out.setk.good hnx
                                      obtain ⟨ry, hry, hy1, hy2⟩ := hmy
                                      have hyo := HP6.out.setk.good.ok ry hry
                                      have hy3 : tMin ≤ y := by omega
                                      have hy4 : y ≤ tMax := by omega
                                      unfold tMin at hy3
                                      unfold tMax at hy4
                                      clear hry hy1 hy2 hyo
                                      have HNX := Aside0.mk hnx
                                      clear hnx
                                      go_upto_region 39 with (first
                                        | (go_at_call 58; go_must (refine (next_calls HP6.out.setk a (by omega)).mono ?_); rw [HNX.out, show nextA (some y) = .tuple #[.int .i8 y, .bool true] from rfl]; rintro e W7 ⟨rfl, k7⟩; have HK7 := Aside0.mk k7; clear k7))
                                      have HP7 := Aside0.mk (HP6.out.stay HK7.out)
                                      have HM7 := Aside0.mk (blk_kp HM6.out.1 HK7.out (fun h => h))
                                      have m0 : W7.cell? ⟨mb, 0, none⟩ = some (.slice Av Ak.length cv) := (blk_cell HM7.out 0).trans rfl
                                      have m1 : W7.cell? ⟨mb, 1, none⟩ = some (.int .i64 tMax) := (blk_cell HM7.out 1).trans rfl
                                      go_wp2_with (first
                                        | (go_at_call 46; go_must (refine (pnext HP7.out.avk HR.out.relk hlk (by omega) a).mono ?_); rw [HNX.out, show (some y).getD 0 = (y : Int) from rfl, show (some y : Option Int).isSome = true from rfl]; rintro e W8 ⟨rfl, k8⟩; have HK8 := Aside0.mk k8; clear k8))
                                      go_meet
                                      exact ⟨rfl, ⟨⟨_, _, _, _, _, _, _, _, _, (HP7.out.stay HK8.out), HR.out.up⟩⟩⟩
                                have e7 : (kd == 7) = false := by simpa using hk7
                                by_cases hk8 : kd = 8
                                · subst hk8
                                  as_aux_lemma =>
                                    have m0 : W6.cell? ⟨mb, 0, none⟩ = some (.slice Av Ak.length cv) := (blk_cell HM6.out.1 0).trans rfl
                                    have m1 : W6.cell? ⟨mb, 1, none⟩ = some (.int .i64 tMax) := (blk_cell HM6.out.1 1).trans rfl
                                    go_upto_region 42 with fail
                                    have K0 : Kp W6 W6.drew (fun q => q = sb ∨ q = sb + 1) := (Kp.refl _ _).drew
                                    have HP6d := Aside0.mk (HP6.out.stay ((Kp.refl _ _).drew))
                                    have hmsb : ¬ (mb = sb ∨ mb = sb + 1) := by have := HSB1.out; have := HRB1.out; intro h; rcases h with h | h <;> omega
                                    refine wp_region_noPanic ?_
                                    refine start_ (n := 13) (S := fun w' => Kp W6 w' (fun q => q = sb ∨ q = sb + 1)) (ds := [12]) #[false, false, false, false, false, false, false, false, false, false, false, false, false] (by kernel_rfl) rfl rfl K0 (fun hHeld => ?_)
                                    refine pure_ (i := 0) (N := (some 228)) (v := ?_) (a' := ?_) #[true, false, false, false, false, false, false, false, false, false, false, false, false] rfl rfl (by kernel_rfl) (fun _ _ _ h => h) (Or.inl ⟨by rfl, ?_⟩) ?_ ?_
                                    rotate_left
                                    · intro w'
                                      go_simp
                                      with_reducible rfl
                                    rotate_left
                                    · simp only [Act.put, List.setIfInBounds_toArray, List.set_cons_zero, List.set_cons_succ]
                                      rfl
                                    refine pure_ (i := 1) (N := (some 229)) (v := ?_) (a' := ?_) #[true, true, false, false, false, false, false, false, false, false, false, false, false] rfl rfl (by kernel_rfl) (fun _ _ _ h => h) (Or.inl ⟨by rfl, ?_⟩) ?_ ?_
                                    rotate_left
                                    · intro w'
                                      go_simp
                                      with_reducible rfl
                                    rotate_left
                                    · simp only [Act.put, List.setIfInBounds_toArray, List.set_cons_zero, List.set_cons_succ]
                                      rfl
                                    refine pure_ (i := 2) (N := (some 230)) (v := ?_) (a' := ?_) #[true, true, true, false, false, false, false, false, false, false, false, false, false] rfl rfl (by kernel_rfl) (fun _ _ _ h => h) (Or.inl ⟨by rfl, ?_⟩) ?_ ?_
                                    rotate_left
                                    · intro w'
                                      go_simp
                                      with_reducible rfl
                                    rotate_left
                                    · simp only [Act.put, List.setIfInBounds_toArray, List.set_cons_zero, List.set_cons_succ]
                                      rfl
                                    refine pure_ (i := 3) (N := (some 231)) (v := ?_) (a' := ?_) #[true, true, true, true, false, false, false, false, false, false, false, false, false] rfl rfl (by kernel_rfl) (fun _ _ _ h => h) (Or.inl ⟨by rfl, ?_⟩) ?_ ?_
                                    rotate_left
                                    · intro w'
                                      go_simp
                                      with_reducible rfl
                                    rotate_left
                                    · simp only [Act.put, List.setIfInBounds_toArray, List.set_cons_zero, List.set_cons_succ]
                                      rfl
                                    refine pure_ (i := 4) (N := (some 232)) (v := ?_) (a' := ?_) #[true, true, true, true, true, false, false, false, false, false, false, false, false] rfl rfl (by kernel_rfl) (fun _ _ _ h => h) (Or.inl ⟨by rfl, ?_⟩) ?_ ?_
                                    rotate_left
                                    · intro w'
                                      go_simp
                                      with_reducible rfl
                                    rotate_left
                                    · simp only [Act.put, List.setIfInBounds_toArray, List.set_cons_zero, List.set_cons_succ]
                                      rfl
                                    refine pure_ (i := 5) (N := (some 233)) (v := ?_) (a' := ?_) #[true, true, true, true, true, true, false, false, false, false, false, false, false] rfl rfl (by kernel_rfl) (fun _ _ _ h => h) (Or.inl ⟨by rfl, ?_⟩) ?_ ?_
                                    rotate_left
                                    · intro w'
                                      go_simp
                                      with_reducible rfl
                                    rotate_left
                                    · simp only [Act.put, List.setIfInBounds_toArray, List.set_cons_zero, List.set_cons_succ]
                                      rfl
                                    refine pure_ (i := 6) (N := (some 234)) (v := ?_) (a' := ?_) #[true, true, true, true, true, true, true, false, false, false, false, false, false] rfl rfl (by kernel_rfl) (fun _ _ _ h => h) (Or.inl ⟨by rfl, ?_⟩) ?_ ?_
                                    rotate_left
                                    · intro w'
                                      go_simp
                                      with_reducible rfl
                                    rotate_left
                                    · simp only [Act.put, List.setIfInBounds_toArray, List.set_cons_zero, List.set_cons_succ]
                                      rfl
                                    refine take_ (i := 8) (N := (some 236)) (v := ?_) (a' := ?_) #[true, true, true, true, true, true, true, false, true, false, false, false, false] rfl rfl (by kernel_rfl) (fun _ _ _ h => h) (Or.inl ⟨by rfl, ?_⟩) hHeld ?_ ?_
                                    rotate_left
                                    · intro w' hK
                                      have s0 := cell_kp m0 hK hmsb
                                      have s1 := cell_kp m1 hK hmsb
                                      go_simp
                                      with_reducible rfl
                                    rotate_left
                                    · simp only [Act.put, List.setIfInBounds_toArray, List.set_cons_zero, List.set_cons_succ]
                                      rfl
                                    refine one_ (i := 7) (N := (some 235)) #[true, true, true, true, true, true, true, true, true, false, false, false, false] rfl rfl (by kernel_rfl) (by decide) (fun K hK => ?_)
                                    refine goes_ Try.func59 (by kernel_rfl) rfl #[.pointer (some ⟨pk, 0, none⟩)] (by rfl) rfl rfl (by (try simp only [List.map_toArray, List.map_cons, List.map_nil]); first | done | rfl) ?_
                                    refine (clone_calls HP6d.out.setk (by omega)).mono ?_
                                    rintro e W7 ⟨pq, sq, rfl, hset, k7, -⟩
                                    have HK7 : Aside0 (Kp W6 W7 (fun _ => False)) := ⟨((Kp.refl W6 _).drew).then_ k7 (fun _ h => .inl h)⟩
                                    have HP7 := Aside0.mk (HP6.out.stay HK7.out)
                                    have HS7 : Aside0 (SetAt W7 w.heap.size pq sq Rk) := ⟨⟨hset.head, row_lower hset.own hbase, hset.good, Nat.le_trans hbase hset.pbase⟩⟩
                                    have hpq : pq ≠ pk := by have h1 := hset.pbase; have h2 : pk < W6.heap.size := blk_lt HP6.out.setk.head; have h3 : W6.drew.heap.size = W6.heap.size := rfl; omega
                                    clear hset k7
                                    refine ⟨_, rfl, ?_⟩
                                    refine hK.out _ _ (HK7.out.mono (fun _ h => h.elim)) (fun hHeld => ?_)
                                    clear hK K
                                    refine norm_ (a' := ?_) ?_ ?_
                                    rotate_left
                                    · show Act.put _ (some 235) _ = _
                                      simp only [Act.put, List.setIfInBounds_toArray, List.set_cons_zero, List.set_cons_succ]
                                      rfl
                                    as_aux_lemma =>
                                      obtain ⟨c0, c1, c2, c3, c4, c5⟩ := HP7.out.cells hk
                                      have f1 := blk_frozen HP7.out.sets (1 - k)
                                      have f4 := blk_frozen HP7.out.refs ((1 - k) * 2)
                                      have f5 := blk_frozen HP7.out.refs ((1 - k) * 2 + 1)
                                      refine pure_ (i := 9) (N := (some 237)) (v := ?_) (a' := ?_) #[true, true, true, true, true, true, true, true, true, true, false, false, false] rfl rfl (by kernel_rfl) (fun _ _ _ h => h) (Or.inl ⟨by rfl, ?_⟩) ?_ ?_
                                      rotate_left
                                      · intro w'
                                        go_simp
                                        with_reducible rfl
                                      rotate_left
                                      · simp only [Act.put, List.setIfInBounds_toArray, List.set_cons_zero, List.set_cons_succ]
                                        rfl
                                      refine one_ (i := 10) (N := none) #[true, true, true, true, true, true, true, true, true, true, true, false, false] rfl rfl (by kernel_rfl) (by decide) (fun K hK => ?_)
                                      refine skip_ (w1 := ?_) (by rfl) rfl ?_ ?_
                                      rotate_left
                                      · go_simp
                                        rfl
                                      have HK8 : Aside0 (Kp W6 (W7.setCell ⟨sb, 1 - k, none⟩ (.pointer (some ⟨pq, 0, none⟩))) (fun q => q = sb ∨ q = sb + 1)) := ⟨(HK7.out.mono (fun _ h => h.elim)).then_ (kp_put _) (fun _ h => .inl (.inl h))⟩
                                      refine hK.out _ _ HK8.out (fun hHeld => ?_)
                                      clear hK K
                                      refine pure_ (i := 11) (N := (some 238)) (v := ?_) (a' := ?_) #[true, true, true, true, true, true, true, true, true, true, true, true, false] rfl rfl (by kernel_rfl) (fun _ _ _ h => h) (Or.inl ⟨by rfl, ?_⟩) ?_ ?_
                                      rotate_left
                                      · intro w'
                                        go_simp
                                        with_reducible rfl
                                      rotate_left
                                      · simp only [Act.put, List.setIfInBounds_toArray, List.set_cons_zero, List.set_cons_succ]
                                        rfl
                                      have g4 : (W7.setCell ⟨sb, 1 - k, none⟩ (.pointer (some ⟨pq, 0, none⟩))).cell? ⟨sb + 1, (1 - k) * 2, none⟩ = some (.slice Aq Ao.length cq) := (cell_far (by simp) _).trans c4
                                      have g5 : (W7.setCell ⟨sb, 1 - k, none⟩ (.pointer (some ⟨pq, 0, none⟩))).cell? ⟨sb + 1, (1 - k) * 2 + 1, none⟩ = some (.int .i64 tMax) := (cell_far (by simp) _).trans c5
                                      have h4 : (W7.setCell ⟨sb, 1 - k, none⟩ (.pointer (some ⟨pq, 0, none⟩))).frozen? ⟨sb + 1, (1 - k) * 2, none⟩ = false := blk_frozen (blk_far HP7.out.refs (p := ⟨sb, 1 - k, none⟩) (by simp) _) _
                                      have h5 : (W7.setCell ⟨sb, 1 - k, none⟩ (.pointer (some ⟨pq, 0, none⟩))).frozen? ⟨sb + 1, (1 - k) * 2 + 1, none⟩ = false := blk_frozen (blk_far HP7.out.refs (p := ⟨sb, 1 - k, none⟩) (by simp) _) _
                                      refine last_ (i := 12) (N := none) #[true, true, true, true, true, true, true, true, true, true, true, true, true] rfl rfl (by kernel_rfl) (by decide) (fun K hK => ?_)
                                      refine skip_ (w1 := ?_) (by rfl) rfl ?_ ?_
                                      rotate_left
                                      · go_simp
                                        rfl
                                      refine hK.out _ _ ?_
                                      clear hK K
                                      refine done_ (by kernel_rfl) ?_
                                      refine NoPanic.normal ?_
                                      as_aux_lemma =>
                                        have HP9 := Aside0.mk (HP7.out.cloned hk HS7.out hpq rfl)
                                        generalize (((W7.setCell ⟨sb, 1 - k, none⟩ (.pointer (some ⟨pq, 0, none⟩))).setCell ⟨sb + 1, (1 - k) * 2, none⟩ (.slice Av Ak.length cv)).setCell ⟨sb + 1, (1 - k) * 2 + 1, none⟩ (.int .i64 tMax)) = W9 at HP9 ⊢
                                        clear c0 c1 c2 c3 c4 c5 f1 f4 f5 g4 g5 h4 h5 m0 m1
                                        obtain ⟨c0, c1, c2, c3, c4, c5⟩ := HP9.out.cells hk
                                        go_wp2_with (first
                                          | (go_at_call 60; go_must (refine (same_calls HP9.out.seto HP9.out.setk (by omega) (by omega)).mono ?_); rw [show decide (Rk = Rk) = true from decide_eq_true rfl]; rintro e W10 ⟨rfl, n10, hw10⟩; have HK10 : Aside0 (Kp W9 W10 (fun _ => False)) := ⟨by rw [hw10]; exact (Kp.refl _ _).drewN n10⟩; clear hw10))
                                        go_meet
                                        exact ⟨rfl, ⟨⟨_, _, _, _, _, _, _, _, _, (HP9.out.stay HK10.out), ⟨HR.out.relk, HR.out.relk, HR.out.up.lenk, HR.out.up.lenk⟩⟩⟩⟩
                                have e8 : (kd == 8) = false := by simpa using hk8
                                by_cases hk9 : kd = 9
                                · subst hk9
                                  as_aux_lemma =>
                                    have n0 : W6.cell? ⟨nb, 0, none⟩ = some (.slice Aq Ao.length cq) := (blk_cell HM6.out.2 0).trans rfl
                                    have n1 : W6.cell? ⟨nb, 1, none⟩ = some (.int .i64 tMax) := (blk_cell HM6.out.2 1).trans rfl
                                    go_upto_region 45 with fail
                                    have K0 : Kp W6 W6.drew (fun _ => False) := (Kp.refl _ _).drew
                                    have HP6d := Aside0.mk (HP6.out.stay K0)
                                    refine wp_region_noPanic ?_
                                    refine start_ (n := 14) (S := fun w' => Kp W6 w' (fun _ => False)) (ds := []) #[false, false, false, false, false, false, false, false, false, false, false, false, false, false] (by kernel_rfl) rfl rfl K0 (fun hHeld => ?_)
                                    refine pure_ (i := 0) (N := (some 256)) (v := ?_) (a' := ?_) #[true, false, false, false, false, false, false, false, false, false, false, false, false, false] rfl rfl (by kernel_rfl) (fun _ _ _ h => h) (Or.inl ⟨by rfl, ?_⟩) ?_ ?_
                                    rotate_left
                                    · intro w'
                                      go_simp
                                      with_reducible rfl
                                    rotate_left
                                    · simp only [Act.put, List.setIfInBounds_toArray, List.set_cons_zero, List.set_cons_succ]
                                      rfl
                                    refine pure_ (i := 1) (N := (some 257)) (v := ?_) (a' := ?_) #[true, true, false, false, false, false, false, false, false, false, false, false, false, false] rfl rfl (by kernel_rfl) (fun _ _ _ h => h) (Or.inl ⟨by rfl, ?_⟩) ?_ ?_
                                    rotate_left
                                    · intro w'
                                      go_simp
                                      with_reducible rfl
                                    rotate_left
                                    · simp only [Act.put, List.setIfInBounds_toArray, List.set_cons_zero, List.set_cons_succ]
                                      rfl
                                    refine pure_ (i := 3) (N := (some 259)) (v := ?_) (a' := ?_) #[true, true, false, true, false, false, false, false, false, false, false, false, false, false] rfl rfl (by kernel_rfl) (fun _ _ _ h => h) (Or.inl ⟨by rfl, ?_⟩) ?_ ?_
                                    rotate_left
                                    · intro w'
                                      go_simp
                                      with_reducible rfl
                                    rotate_left
                                    · simp only [Act.put, List.setIfInBounds_toArray, List.set_cons_zero, List.set_cons_succ]
                                      rfl
                                    refine take_ (i := 4) (N := (some 260)) (v := ?_) (a' := ?_) #[true, true, false, true, true, false, false, false, false, false, false, false, false, false] rfl rfl (by kernel_rfl) (fun _ _ _ h => h) (Or.inl ⟨by rfl, ?_⟩) hHeld ?_ ?_
                                    rotate_left
                                    · intro w' hK
                                      have s0 := cell_kp n0 hK (fun h => h)
                                      have s1 := cell_kp n1 hK (fun h => h)
                                      go_simp
                                      with_reducible rfl
                                    rotate_left
                                    · simp only [Act.put, List.setIfInBounds_toArray, List.set_cons_zero, List.set_cons_succ]
                                      rfl
                                    refine one_ (i := 2) (N := (some 258)) #[true, true, true, true, true, false, false, false, false, false, false, false, false, false] rfl rfl (by kernel_rfl) (by decide) (fun K hK => ?_)
                                    refine goes_ Try.func60 (by kernel_rfl) rfl #[.pointer (some ⟨pk, 0, none⟩), .pointer (some ⟨po, 0, none⟩)] (by rfl) rfl rfl (by (try simp only [List.map_toArray, List.map_cons, List.map_nil]); first | done | rfl) ?_
                                    refine (same_calls HP6d.out.setk HP6d.out.seto (by omega) (by omega)).mono ?_
                                    rintro e W7 ⟨rfl, n7, hw7⟩
                                    have HK7 : Aside0 (Kp W6 W7 (fun _ => False)) := ⟨by rw [hw7]; exact K0.drewN n7⟩
                                    clear hw7
                                    have HP7 := Aside0.mk (HP6.out.stay HK7.out)
                                    refine ⟨_, rfl, ?_⟩
                                    refine hK.out _ _ HK7.out (fun hHeld => ?_)
                                    clear hK K
                                    refine norm_ (a' := ?_) ?_ ?_
                                    rotate_left
                                    · show Act.put _ (some 258) _ = _
                                      simp only [Act.put, List.setIfInBounds_toArray, List.set_cons_zero, List.set_cons_succ]
                                      rfl
                                    as_aux_lemma =>
                                      refine one_ (i := 5) (N := (some 261)) #[true, true, true, true, true, true, false, false, false, false, false, false, false, false] rfl rfl (by kernel_rfl) (by decide) (fun K hK => ?_)
                                      refine goes_ Try.func38 (by kernel_rfl) rfl #[.agg #[.slice Aq Ao.length cq, .int .i64 tMax]] (by rfl) rfl rfl (by (try simp only [List.map_toArray, List.map_cons, List.map_nil]); first | done | rfl) ?_
                                      refine (pruns2 HP7.out.avo HR.out.relo hlo).mono ?_
                                      rintro e W8 ⟨u8, rfl, hu8, k8⟩
                                      obtain ⟨A8, c8, eu8⟩ := Kd.R_slice hu8
                                      rw [ofR_len] at eu8
                                      subst eu8
                                      have HK8 : Aside0 (Kp W6 W8 (fun _ => False)) := ⟨HK7.out.then_ k8 (fun _ h => .inl h)⟩
                                      have HU8 := Aside0.mk (RV.of_row hu8 (Kp.refl _ (fun _ => False)) (fun _ h => h.elim))
                                      have HW8 := Aside0.mk (RV.of_row HW.out HK8.out (fun _ h => h.elim))
                                      clear hu8 k8
                                      refine ⟨_, rfl, ?_⟩
                                      refine hK.out _ _ HK8.out (fun hHeld => ?_)
                                      clear hK K
                                      refine norm_ (a' := ?_) ?_ ?_
                                      rotate_left
                                      · show Act.put _ (some 261) _ = _
                                        simp only [Act.put, List.setIfInBounds_toArray, List.set_cons_zero, List.set_cons_succ]
                                        rfl
                                      as_aux_lemma =>
                                        refine one_ (i := 6) (N := (some 262)) #[true, true, true, true, true, true, true, false, false, false, false, false, false, false] rfl rfl (by kernel_rfl) (by decide) (fun K hK => ?_)
                                        refine goes_ Try.func21 (by kernel_rfl) rfl #[.slice Aw Rk.length cw, .slice A8 Ro.length c8] (by rfl) rfl rfl (by (try simp only [List.map_toArray, List.map_cons, List.map_nil]); first | done | rfl) ?_
                                        refine (psame HW8.out HU8.out (by omega)).mono ?_
                                        rintro e W9 ⟨rfl, k9⟩
                                        have HK9 : Aside0 (Kp W6 W9 (fun _ => False)) := ⟨HK8.out.then_ k9 (fun _ h => .inl h)⟩
                                        have HP9 := Aside0.mk (HP6.out.stay HK9.out)
                                        clear k9
                                        refine ⟨_, rfl, ?_⟩
                                        refine hK.out _ _ HK9.out (fun hHeld => ?_)
                                        clear hK K
                                        refine norm_ (a' := ?_) ?_ ?_
                                        rotate_left
                                        · show Act.put _ (some 262) _ = _
                                          simp only [Act.put, List.setIfInBounds_toArray, List.set_cons_zero, List.set_cons_succ]
                                          rfl
                                        as_aux_lemma =>
                                          refine pure_ (i := 7) (N := (some 263)) (v := .bool true) (a' := ?_) #[true, true, true, true, true, true, true, true, false, false, false, false, false, false] rfl rfl (by kernel_rfl) (fun _ _ _ h => h) (Or.inl ⟨by rfl, ?_⟩) ?_ ?_
                                          · intro w'
                                            go_simp
                                            try simp
                                          rotate_left
                                          · simp only [Act.put, List.setIfInBounds_toArray, List.set_cons_zero, List.set_cons_succ]
                                            rfl
                                          refine pure_ (i := 8) (N := (some 264)) (v := ?_) (a' := ?_) #[true, true, true, true, true, true, true, true, true, false, false, false, false, false] rfl rfl (by kernel_rfl) (fun _ _ _ h => h) (Or.inl ⟨by rfl, ?_⟩) ?_ ?_
                                          rotate_left
                                          · intro w'
                                            go_simp
                                            with_reducible rfl
                                          rotate_left
                                          · simp only [Act.put, List.setIfInBounds_toArray, List.set_cons_zero, List.set_cons_succ]
                                            rfl
                                          refine pure_ (i := 9) (N := (some 265)) (v := ?_) (a' := ?_) #[true, true, true, true, true, true, true, true, true, true, false, false, false, false] rfl rfl (by kernel_rfl) (fun _ _ _ h => h) (Or.inl ⟨by rfl, ?_⟩) ?_ ?_
                                          rotate_left
                                          · intro w'
                                            go_simp
                                            with_reducible rfl
                                          rotate_left
                                          · simp only [Act.put, List.setIfInBounds_toArray, List.set_cons_zero, List.set_cons_succ]
                                            rfl
                                          refine pure_ (i := 10) (N := (some 266)) (v := ?_) (a' := ?_) #[true, true, true, true, true, true, true, true, true, true, true, false, false, false] rfl rfl (by kernel_rfl) (fun _ _ _ h => h) (Or.inl ⟨by rfl, ?_⟩) ?_ ?_
                                          rotate_left
                                          · intro w'
                                            go_simp
                                            with_reducible rfl
                                          rotate_left
                                          · simp only [Act.put, List.setIfInBounds_toArray, List.set_cons_zero, List.set_cons_succ]
                                            rfl
                                          refine one_ (i := 11) (N := (some 267)) #[true, true, true, true, true, true, true, true, true, true, true, true, false, false] rfl rfl (by kernel_rfl) (by decide) (fun K hK => ?_)
                                          refine goes_ Try.func60 (by kernel_rfl) rfl #[.pointer (some ⟨pk, 0, none⟩), .pointer (some ⟨pk, 0, none⟩)] (by rfl) rfl rfl (by (try simp only [List.map_toArray, List.map_cons, List.map_nil]); first | done | rfl) ?_
                                          refine (same_calls HP9.out.setk HP9.out.setk (by omega) (by omega)).mono ?_
                                          rw [show decide (Rk = Rk) = true from decide_eq_true rfl]
                                          rintro e W10 ⟨rfl, n10, hw10⟩
                                          have HK10 : Aside0 (Kp W6 W10 (fun _ => False)) := ⟨by rw [hw10]; exact HK9.out.drewN n10⟩
                                          clear hw10
                                          refine ⟨_, rfl, ?_⟩
                                          refine hK.out _ _ HK10.out (fun hHeld => ?_)
                                          clear hK K
                                          refine norm_ (a' := ?_) ?_ ?_
                                          rotate_left
                                          · show Act.put _ (some 267) _ = _
                                            simp only [Act.put, List.setIfInBounds_toArray, List.set_cons_zero, List.set_cons_succ]
                                            rfl
                                          as_aux_lemma =>
                                            refine pure_ (i := 12) (N := (some 268)) (v := ?_) (a' := ?_) #[true, true, true, true, true, true, true, true, true, true, true, true, true, false] rfl rfl (by kernel_rfl) (fun _ _ _ h => h) (Or.inl ⟨by rfl, ?_⟩) ?_ ?_
                                            rotate_left
                                            · intro w'
                                              go_simp
                                              with_reducible rfl
                                            rotate_left
                                            · simp only [Act.put, List.setIfInBounds_toArray, List.set_cons_zero, List.set_cons_succ]
                                              rfl
                                            refine pure_ (i := 13) (N := (some 19)) (v := ?_) (a' := ?_) #[true, true, true, true, true, true, true, true, true, true, true, true, true, true] rfl rfl (by kernel_rfl) (fun _ _ _ h => h) (Or.inl ⟨by rfl, ?_⟩) ?_ ?_
                                            rotate_left
                                            · intro w'
                                              go_simp
                                              with_reducible rfl
                                            rotate_left
                                            · simp only [Act.put, List.setIfInBounds_toArray, List.set_cons_zero, List.set_cons_succ]
                                              rfl
                                            refine done_ (by kernel_rfl) ?_
                                            refine NoPanic.normal ?_
                                            as_aux_lemma =>
                                              go_wp2
                                              go_meet
                                              exact ⟨rfl, ⟨⟨_, _, _, _, _, _, _, _, _, (HP6.out.stay HK10.out), HR.out.up⟩⟩⟩
                                have e9 : (kd == 9) = false := by simpa using hk9
                                as_aux_lemma =>
                                  go_wp2
                                  go_meet
                                  exact ⟨rfl, ⟨⟨_, _, _, _, _, _, _, _, _, HP6.out, HR.out.up⟩⟩⟩
                              case rest =>
                                as_aux_lemma =>
                                  clear HP6 HO6 HM6 HW HK6 HR LO HI HA HB hRk hAk hRo hAo hlk hlo hpk5 hrb5 hsb5 hmb5 hnb5 hrbp hsbp hmbp hnbp hmrb hnrb hbase hmge hnge hobl HRB1 HSB1
                                  obtain ⟨rfl, HH2⟩ := hcut
                                  obtain ⟨po2, sk2, so2, vk2, vo2, R2, S2, A2, B2, hPl, hPr⟩ := HH2.out
                                  obtain ⟨Ax, cx, evk⟩ := Kd.R_slice hPl.avk.row
                                  obtain ⟨Ay, cy, evo⟩ := Kd.R_slice hPl.avo.row
                                  subst evk evo
                                  have HP := Aside0.mk hPl
                                  have HR := Aside0.mk hPr
                                  clear hPl hPr HH2
                                  have hpw2 := pow_up n
                                  have hpw := pow_most (n := n) (by omega)
                                  have l1 : R2.length ≤ 2199023255552 := by have := HR.out.lenk.1; omega
                                  have l2 : A2.length ≤ 2199023255552 := by have := HR.out.lenk.2; omega
                                  have l3 : S2.length ≤ 2199023255552 := by have := HR.out.leno.1; omega
                                  have l4 : B2.length ≤ 2199023255552 := by have := HR.out.leno.2; omega
                                  obtain ⟨c0, c1, c2, c3, c4, c5⟩ := HP.out.cells hk
                                  go_upto_region 46 with fail
                                  rename World => wc
                                  refine wp_region_noPanic ?_
                                  refine start_ (n := 48) (S := fun w' => Kp wc w' (fun _ => False)) (ds := []) #[false, false, false, false, false, false, false, false, false, false, false, false, false, false, false, false, false, false, false, false, false, false, false, false, false, false, false, false, false, false, false, false, false, false, false, false, false, false, false, false, false, false, false, false, false, false, false, false] (by kernel_rfl) rfl rfl ((Kp.refl _ _).drew) (fun hHeld => ?_)
                                  refine pure_ (i := 0) (N := (some 269)) (v := ?_) (a' := ?_) #[true, false, false, false, false, false, false, false, false, false, false, false, false, false, false, false, false, false, false, false, false, false, false, false, false, false, false, false, false, false, false, false, false, false, false, false, false, false, false, false, false, false, false, false, false, false, false, false] rfl rfl (by kernel_rfl) (fun _ _ _ h => h) (Or.inl ⟨by rfl, ?_⟩) ?_ ?_
                                  rotate_left
                                  · intro w'
                                    go_simp
                                    with_reducible rfl
                                  rotate_left
                                  · simp only [Act.put, List.setIfInBounds_toArray, List.set_cons_zero, List.set_cons_succ]
                                    rfl
                                  refine pure_ (i := 1) (N := (some 270)) (v := ?_) (a' := ?_) #[true, true, false, false, false, false, false, false, false, false, false, false, false, false, false, false, false, false, false, false, false, false, false, false, false, false, false, false, false, false, false, false, false, false, false, false, false, false, false, false, false, false, false, false, false, false, false, false] rfl rfl (by kernel_rfl) (fun _ _ _ h => h) (Or.inl ⟨by rfl, ?_⟩) ?_ ?_
                                  rotate_left
                                  · intro w'
                                    go_simp
                                    with_reducible rfl
                                  rotate_left
                                  · simp only [Act.put, List.setIfInBounds_toArray, List.set_cons_zero, List.set_cons_succ]
                                    rfl
                                  refine pure_ (i := 2) (N := (some 271)) (v := ?_) (a' := ?_) #[true, true, true, false, false, false, false, false, false, false, false, false, false, false, false, false, false, false, false, false, false, false, false, false, false, false, false, false, false, false, false, false, false, false, false, false, false, false, false, false, false, false, false, false, false, false, false, false] rfl rfl (by kernel_rfl) (fun _ _ _ h => h) (Or.inl ⟨by rfl, ?_⟩) ?_ ?_
                                  rotate_left
                                  · intro w'
                                    go_simp
                                    with_reducible rfl
                                  rotate_left
                                  · simp only [Act.put, List.setIfInBounds_toArray, List.set_cons_zero, List.set_cons_succ]
                                    rfl
                                  refine pure_ (i := 3) (N := (some 272)) (v := ?_) (a' := ?_) #[true, true, true, true, false, false, false, false, false, false, false, false, false, false, false, false, false, false, false, false, false, false, false, false, false, false, false, false, false, false, false, false, false, false, false, false, false, false, false, false, false, false, false, false, false, false, false, false] rfl rfl (by kernel_rfl) (fun _ _ _ h => h) (Or.inl ⟨by rfl, ?_⟩) ?_ ?_
                                  rotate_left
                                  · intro w'
                                    go_simp
                                    with_reducible rfl
                                  rotate_left
                                  · simp only [Act.put, List.setIfInBounds_toArray, List.set_cons_zero, List.set_cons_succ]
                                    rfl
                                  refine pure_ (i := 4) (N := (some 273)) (v := ?_) (a' := ?_) #[true, true, true, true, true, false, false, false, false, false, false, false, false, false, false, false, false, false, false, false, false, false, false, false, false, false, false, false, false, false, false, false, false, false, false, false, false, false, false, false, false, false, false, false, false, false, false, false] rfl rfl (by kernel_rfl) (fun _ _ _ h => h) (Or.inl ⟨by rfl, ?_⟩) ?_ ?_
                                  rotate_left
                                  · intro w'
                                    go_simp
                                    with_reducible rfl
                                  rotate_left
                                  · simp only [Act.put, List.setIfInBounds_toArray, List.set_cons_zero, List.set_cons_succ]
                                    rfl
                                  refine pure_ (i := 5) (N := (some 274)) (v := ?_) (a' := ?_) #[true, true, true, true, true, true, false, false, false, false, false, false, false, false, false, false, false, false, false, false, false, false, false, false, false, false, false, false, false, false, false, false, false, false, false, false, false, false, false, false, false, false, false, false, false, false, false, false] rfl rfl (by kernel_rfl) (fun _ _ _ h => h) (Or.inl ⟨by rfl, ?_⟩) ?_ ?_
                                  rotate_left
                                  · intro w'
                                    go_simp
                                    with_reducible rfl
                                  rotate_left
                                  · simp only [Act.put, List.setIfInBounds_toArray, List.set_cons_zero, List.set_cons_succ]
                                    rfl
                                  refine pure_ (i := 6) (N := (some 275)) (v := ?_) (a' := ?_) #[true, true, true, true, true, true, true, false, false, false, false, false, false, false, false, false, false, false, false, false, false, false, false, false, false, false, false, false, false, false, false, false, false, false, false, false, false, false, false, false, false, false, false, false, false, false, false, false] rfl rfl (by kernel_rfl) (fun _ _ _ h => h) (Or.inl ⟨by rfl, ?_⟩) ?_ ?_
                                  rotate_left
                                  · intro w'
                                    go_simp
                                    with_reducible rfl
                                  rotate_left
                                  · simp only [Act.put, List.setIfInBounds_toArray, List.set_cons_zero, List.set_cons_succ]
                                    rfl
                                  refine take_ (i := 7) (N := (some 276)) (v := ?_) (a' := ?_) #[true, true, true, true, true, true, true, true, false, false, false, false, false, false, false, false, false, false, false, false, false, false, false, false, false, false, false, false, false, false, false, false, false, false, false, false, false, false, false, false, false, false, false, false, false, false, false, false] rfl rfl (by kernel_rfl) (fun _ _ _ h => h) (Or.inl ⟨by rfl, ?_⟩) hHeld ?_ ?_
                                  rotate_left
                                  · intro w' hK
                                    have s0 := cell_kp c1 hK (fun h => h)
                                    go_simp
                                    with_reducible rfl
                                  rotate_left
                                  · simp only [Act.put, List.setIfInBounds_toArray, List.set_cons_zero, List.set_cons_succ]
                                    rfl
                                  refine pure_ (i := 8) (N := (some 277)) (v := ?_) (a' := ?_) #[true, true, true, true, true, true, true, true, true, false, false, false, false, false, false, false, false, false, false, false, false, false, false, false, false, false, false, false, false, false, false, false, false, false, false, false, false, false, false, false, false, false, false, false, false, false, false, false] rfl rfl (by kernel_rfl) (fun _ _ _ h => h) (Or.inl ⟨by rfl, ?_⟩) ?_ ?_
                                  rotate_left
                                  · intro w'
                                    go_simp
                                    with_reducible rfl
                                  rotate_left
                                  · simp only [Act.put, List.setIfInBounds_toArray, List.set_cons_zero, List.set_cons_succ]
                                    rfl
                                  refine pure_ (i := 9) (N := (some 278)) (v := ?_) (a' := ?_) #[true, true, true, true, true, true, true, true, true, true, false, false, false, false, false, false, false, false, false, false, false, false, false, false, false, false, false, false, false, false, false, false, false, false, false, false, false, false, false, false, false, false, false, false, false, false, false, false] rfl rfl (by kernel_rfl) (fun _ _ _ h => h) (Or.inl ⟨by rfl, ?_⟩) ?_ ?_
                                  rotate_left
                                  · intro w'
                                    go_simp
                                    with_reducible rfl
                                  rotate_left
                                  · simp only [Act.put, List.setIfInBounds_toArray, List.set_cons_zero, List.set_cons_succ]
                                    rfl
                                  refine pure_ (i := 10) (N := (some 279)) (v := ?_) (a' := ?_) #[true, true, true, true, true, true, true, true, true, true, true, false, false, false, false, false, false, false, false, false, false, false, false, false, false, false, false, false, false, false, false, false, false, false, false, false, false, false, false, false, false, false, false, false, false, false, false, false] rfl rfl (by kernel_rfl) (fun _ _ _ h => h) (Or.inl ⟨by rfl, ?_⟩) ?_ ?_
                                  rotate_left
                                  · intro w'
                                    go_simp
                                    with_reducible rfl
                                  rotate_left
                                  · simp only [Act.put, List.setIfInBounds_toArray, List.set_cons_zero, List.set_cons_succ]
                                    rfl
                                  refine pure_ (i := 11) (N := (some 280)) (v := ?_) (a' := ?_) #[true, true, true, true, true, true, true, true, true, true, true, true, false, false, false, false, false, false, false, false, false, false, false, false, false, false, false, false, false, false, false, false, false, false, false, false, false, false, false, false, false, false, false, false, false, false, false, false] rfl rfl (by kernel_rfl) (fun _ _ _ h => h) (Or.inl ⟨by rfl, ?_⟩) ?_ ?_
                                  rotate_left
                                  · intro w'
                                    go_simp
                                    with_reducible rfl
                                  rotate_left
                                  · simp only [Act.put, List.setIfInBounds_toArray, List.set_cons_zero, List.set_cons_succ]
                                    rfl
                                  refine pure_ (i := 12) (N := (some 281)) (v := ?_) (a' := ?_) #[true, true, true, true, true, true, true, true, true, true, true, true, true, false, false, false, false, false, false, false, false, false, false, false, false, false, false, false, false, false, false, false, false, false, false, false, false, false, false, false, false, false, false, false, false, false, false, false] rfl rfl (by kernel_rfl) (fun _ _ _ h => h) (Or.inl ⟨by rfl, ?_⟩) ?_ ?_
                                  rotate_left
                                  · intro w'
                                    go_simp
                                    with_reducible rfl
                                  rotate_left
                                  · simp only [Act.put, List.setIfInBounds_toArray, List.set_cons_zero, List.set_cons_succ]
                                    rfl
                                  refine pure_ (i := 13) (N := (some 282)) (v := ?_) (a' := ?_) #[true, true, true, true, true, true, true, true, true, true, true, true, true, true, false, false, false, false, false, false, false, false, false, false, false, false, false, false, false, false, false, false, false, false, false, false, false, false, false, false, false, false, false, false, false, false, false, false] rfl rfl (by kernel_rfl) (fun _ _ _ h => h) (Or.inl ⟨by rfl, ?_⟩) ?_ ?_
                                  rotate_left
                                  · intro w'
                                    go_simp
                                    with_reducible rfl
                                  rotate_left
                                  · simp only [Act.put, List.setIfInBounds_toArray, List.set_cons_zero, List.set_cons_succ]
                                    rfl
                                  refine pure_ (i := 16) (N := (some 285)) (v := ?_) (a' := ?_) #[true, true, true, true, true, true, true, true, true, true, true, true, true, true, false, false, true, false, false, false, false, false, false, false, false, false, false, false, false, false, false, false, false, false, false, false, false, false, false, false, false, false, false, false, false, false, false, false] rfl rfl (by kernel_rfl) (fun _ _ _ h => h) (Or.inl ⟨by rfl, ?_⟩) ?_ ?_
                                  rotate_left
                                  · intro w'
                                    go_simp
                                    with_reducible rfl
                                  rotate_left
                                  · simp only [Act.put, List.setIfInBounds_toArray, List.set_cons_zero, List.set_cons_succ]
                                    rfl
                                  refine pure_ (i := 17) (N := (some 286)) (v := ?_) (a' := ?_) #[true, true, true, true, true, true, true, true, true, true, true, true, true, true, false, false, true, true, false, false, false, false, false, false, false, false, false, false, false, false, false, false, false, false, false, false, false, false, false, false, false, false, false, false, false, false, false, false] rfl rfl (by kernel_rfl) (fun _ _ _ h => h) (Or.inl ⟨by rfl, ?_⟩) ?_ ?_
                                  rotate_left
                                  · intro w'
                                    go_simp
                                    with_reducible rfl
                                  rotate_left
                                  · simp only [Act.put, List.setIfInBounds_toArray, List.set_cons_zero, List.set_cons_succ]
                                    rfl
                                  refine pure_ (i := 18) (N := (some 287)) (v := ?_) (a' := ?_) #[true, true, true, true, true, true, true, true, true, true, true, true, true, true, false, false, true, true, true, false, false, false, false, false, false, false, false, false, false, false, false, false, false, false, false, false, false, false, false, false, false, false, false, false, false, false, false, false] rfl rfl (by kernel_rfl) (fun _ _ _ h => h) (Or.inl ⟨by rfl, ?_⟩) ?_ ?_
                                  rotate_left
                                  · intro w'
                                    go_simp
                                    with_reducible rfl
                                  rotate_left
                                  · simp only [Act.put, List.setIfInBounds_toArray, List.set_cons_zero, List.set_cons_succ]
                                    rfl
                                  refine take_ (i := 14) (N := (some 283)) (v := ?_) (a' := ?_) #[true, true, true, true, true, true, true, true, true, true, true, true, true, true, true, false, true, true, true, false, false, false, false, false, false, false, false, false, false, false, false, false, false, false, false, false, false, false, false, false, false, false, false, false, false, false, false, false] rfl rfl (by kernel_rfl) (fun _ _ _ h => h) (Or.inl ⟨by rfl, ?_⟩) hHeld ?_ ?_
                                  rotate_left
                                  · intro w' hK
                                    have s0 := cell_kp c0 hK (fun h => h)
                                    go_simp
                                    with_reducible rfl
                                  rotate_left
                                  · simp only [Act.put, List.setIfInBounds_toArray, List.set_cons_zero, List.set_cons_succ]
                                    rfl
                                  refine take_ (i := 19) (N := (some 288)) (v := ?_) (a' := ?_) #[true, true, true, true, true, true, true, true, true, true, true, true, true, true, true, false, true, true, true, true, false, false, false, false, false, false, false, false, false, false, false, false, false, false, false, false, false, false, false, false, false, false, false, false, false, false, false, false] rfl rfl (by kernel_rfl) (fun _ _ _ h => h) (Or.inl ⟨by rfl, ?_⟩) hHeld ?_ ?_
                                  rotate_left
                                  · intro w' hK
                                    have s0 := cell_kp c2 hK (fun h => h)
                                    have s1 := cell_kp c3 hK (fun h => h)
                                    go_simp
                                    with_reducible rfl
                                  rotate_left
                                  · simp only [Act.put, List.setIfInBounds_toArray, List.set_cons_zero, List.set_cons_succ]
                                    rfl
                                  refine one_ (i := 15) (N := (some 284)) #[true, true, true, true, true, true, true, true, true, true, true, true, true, true, true, true, true, true, true, true, false, false, false, false, false, false, false, false, false, false, false, false, false, false, false, false, false, false, false, false, false, false, false, false, false, false, false, false] rfl rfl (by kernel_rfl) (by decide) (fun K hK => ?_)
                                  refine goes_ Try.func61 (by kernel_rfl) rfl #[.pointer (some ⟨pk, 0, none⟩)] (by rfl) rfl rfl (by (try simp only [List.map_toArray, List.map_cons, List.map_nil]); first | done | rfl) ?_
                                  refine (ptold (HP.out.setk.stay ((Kp.refl _ _).drew)) (by omega)).mono ?_
                                  rintro e wd ⟨ud, rfl, hud, kd0⟩
                                  obtain ⟨Ad, cd, eud⟩ := hud.slice
                                  subst eud
                                  have KD : Aside0 (Kp wc wd (fun _ => False)) := ⟨((Kp.refl wc _).drew).then_ kd0 (fun _ h => .inl h)⟩
                                  have UD := Aside0.mk hud
                                  have PD := Aside0.mk (HP.out.stay KD.out)
                                  clear hud kd0
                                  refine ⟨_, rfl, ?_⟩
                                  refine hK.out _ _ KD.out (fun hHeld => ?_)
                                  clear hK K
                                  refine norm_ (a' := ?_) ?_ ?_
                                  rotate_left
                                  · show Act.put _ (some 284) _ = _
                                    simp only [Act.put, List.setIfInBounds_toArray, List.set_cons_zero, List.set_cons_succ]
                                    rfl
                                  as_aux_lemma =>
                                    refine one_ (i := 20) (N := (some 289)) #[true, true, true, true, true, true, true, true, true, true, true, true, true, true, true, true, true, true, true, true, true, false, false, false, false, false, false, false, false, false, false, false, false, false, false, false, false, false, false, false, false, false, false, false, false, false, false, false] rfl rfl (by kernel_rfl) (by decide) (fun K hK => ?_)
                                    refine goes_ Try.func38 (by kernel_rfl) rfl #[.agg #[.slice Ax A2.length cx, .int .i64 tMax]] (by rfl) rfl rfl (by (try simp only [List.map_toArray, List.map_cons, List.map_nil]); first | done | rfl) ?_
                                    refine (pruns PD.out.avk HR.out.relk l2).mono ?_
                                    rintro e we ⟨ue, rfl, hue, ke0⟩
                                    obtain ⟨Ae, ce, eue⟩ := hue.slice
                                    subst eue
                                    have KE : Aside0 (Kp wc we (fun _ => False)) := ⟨KD.out.then_ ke0 (fun _ h => .inl h)⟩
                                    have UE := Aside0.mk hue
                                    have UD2 := Aside0.mk (UD.out.stay ke0)
                                    clear hue ke0
                                    refine ⟨_, rfl, ?_⟩
                                    refine hK.out _ _ KE.out (fun hHeld => ?_)
                                    clear hK K
                                    refine norm_ (a' := ?_) ?_ ?_
                                    rotate_left
                                    · show Act.put _ (some 289) _ = _
                                      simp only [Act.put, List.setIfInBounds_toArray, List.set_cons_zero, List.set_cons_succ]
                                      rfl
                                    as_aux_lemma =>
                                      refine one_ (i := 21) (N := (some 290)) #[true, true, true, true, true, true, true, true, true, true, true, true, true, true, true, true, true, true, true, true, true, true, false, false, false, false, false, false, false, false, false, false, false, false, false, false, false, false, false, false, false, false, false, false, false, false, false, false] rfl rfl (by kernel_rfl) (by decide) (fun K hK => ?_)
                                      refine goes_ Try.func21 (by kernel_rfl) rfl #[.slice Ad R2.length cd, .slice Ae R2.length ce] (by rfl) rfl rfl (by (try simp only [List.map_toArray, List.map_cons, List.map_nil]); first | done | rfl) ?_
                                      refine (psame UD2.out UE.out (by omega)).mono ?_
                                      rw [show decide (R2 = R2) = true from decide_eq_true rfl]
                                      rintro e wf ⟨rfl, kf0⟩
                                      have KF : Aside0 (Kp wc wf (fun _ => False)) := ⟨KE.out.then_ kf0 (fun _ h => .inl h)⟩
                                      have PF := Aside0.mk (HP.out.stay KF.out)
                                      clear kf0
                                      refine ⟨_, rfl, ?_⟩
                                      refine hK.out _ _ KF.out (fun hHeld => ?_)
                                      clear hK K
                                      refine norm_ (a' := ?_) ?_ ?_
                                      rotate_left
                                      · show Act.put _ (some 290) _ = _
                                        simp only [Act.put, List.setIfInBounds_toArray, List.set_cons_zero, List.set_cons_succ]
                                        rfl
                                      as_aux_lemma =>
                                        refine pure_ (i := 22) (N := (some 291)) (v := ?_) (a' := ?_) #[true, true, true, true, true, true, true, true, true, true, true, true, true, true, true, true, true, true, true, true, true, true, true, false, false, false, false, false, false, false, false, false, false, false, false, false, false, false, false, false, false, false, false, false, false, false, false, false] rfl rfl (by kernel_rfl) (fun _ _ _ h => h) (Or.inl ⟨by rfl, ?_⟩) ?_ ?_
                                        rotate_left
                                        · intro w'
                                          go_simp
                                          with_reducible rfl
                                        rotate_left
                                        · simp only [Act.put, List.setIfInBounds_toArray, List.set_cons_zero, List.set_cons_succ]
                                          rfl
                                        refine pure_ (i := 23) (N := (some 292)) (v := ?_) (a' := ?_) #[true, true, true, true, true, true, true, true, true, true, true, true, true, true, true, true, true, true, true, true, true, true, true, true, false, false, false, false, false, false, false, false, false, false, false, false, false, false, false, false, false, false, false, false, false, false, false, false] rfl rfl (by kernel_rfl) (fun _ _ _ h => h) (Or.inl ⟨by rfl, ?_⟩) ?_ ?_
                                        rotate_left
                                        · intro w'
                                          go_simp
                                          with_reducible rfl
                                        rotate_left
                                        · simp only [Act.put, List.setIfInBounds_toArray, List.set_cons_zero, List.set_cons_succ]
                                          rfl
                                        refine pure_ (i := 24) (N := (some 293)) (v := ?_) (a' := ?_) #[true, true, true, true, true, true, true, true, true, true, true, true, true, true, true, true, true, true, true, true, true, true, true, true, true, false, false, false, false, false, false, false, false, false, false, false, false, false, false, false, false, false, false, false, false, false, false, false] rfl rfl (by kernel_rfl) (fun _ _ _ h => h) (Or.inl ⟨by rfl, ?_⟩) ?_ ?_
                                        rotate_left
                                        · intro w'
                                          go_simp
                                          with_reducible rfl
                                        rotate_left
                                        · simp only [Act.put, List.setIfInBounds_toArray, List.set_cons_zero, List.set_cons_succ]
                                          rfl
                                        refine pure_ (i := 25) (N := (some 294)) (v := ?_) (a' := ?_) #[true, true, true, true, true, true, true, true, true, true, true, true, true, true, true, true, true, true, true, true, true, true, true, true, true, true, false, false, false, false, false, false, false, false, false, false, false, false, false, false, false, false, false, false, false, false, false, false] rfl rfl (by kernel_rfl) (fun _ _ _ h => h) (Or.inl ⟨by rfl, ?_⟩) ?_ ?_
                                        rotate_left
                                        · intro w'
                                          go_simp
                                          with_reducible rfl
                                        rotate_left
                                        · simp only [Act.put, List.setIfInBounds_toArray, List.set_cons_zero, List.set_cons_succ]
                                          rfl
                                        refine pure_ (i := 26) (N := (some 295)) (v := ?_) (a' := ?_) #[true, true, true, true, true, true, true, true, true, true, true, true, true, true, true, true, true, true, true, true, true, true, true, true, true, true, true, false, false, false, false, false, false, false, false, false, false, false, false, false, false, false, false, false, false, false, false, false] rfl rfl (by kernel_rfl) (fun _ _ _ h => h) (Or.inl ⟨by rfl, ?_⟩) ?_ ?_
                                        rotate_left
                                        · intro w'
                                          go_simp
                                          with_reducible rfl
                                        rotate_left
                                        · simp only [Act.put, List.setIfInBounds_toArray, List.set_cons_zero, List.set_cons_succ]
                                          rfl
                                        refine pure_ (i := 27) (N := (some 296)) (v := ?_) (a' := ?_) #[true, true, true, true, true, true, true, true, true, true, true, true, true, true, true, true, true, true, true, true, true, true, true, true, true, true, true, true, false, false, false, false, false, false, false, false, false, false, false, false, false, false, false, false, false, false, false, false] rfl rfl (by kernel_rfl) (fun _ _ _ h => h) (Or.inl ⟨by rfl, ?_⟩) ?_ ?_
                                        rotate_left
                                        · intro w'
                                          go_simp
                                          with_reducible rfl
                                        rotate_left
                                        · simp only [Act.put, List.setIfInBounds_toArray, List.set_cons_zero, List.set_cons_succ]
                                          rfl
                                        refine pure_ (i := 28) (N := (some 297)) (v := ?_) (a' := ?_) #[true, true, true, true, true, true, true, true, true, true, true, true, true, true, true, true, true, true, true, true, true, true, true, true, true, true, true, true, true, false, false, false, false, false, false, false, false, false, false, false, false, false, false, false, false, false, false, false] rfl rfl (by kernel_rfl) (fun _ _ _ h => h) (Or.inl ⟨by rfl, ?_⟩) ?_ ?_
                                        rotate_left
                                        · intro w'
                                          go_simp
                                          with_reducible rfl
                                        rotate_left
                                        · simp only [Act.put, List.setIfInBounds_toArray, List.set_cons_zero, List.set_cons_succ]
                                          rfl
                                        refine pure_ (i := 31) (N := (some 300)) (v := ?_) (a' := ?_) #[true, true, true, true, true, true, true, true, true, true, true, true, true, true, true, true, true, true, true, true, true, true, true, true, true, true, true, true, true, false, false, true, false, false, false, false, false, false, false, false, false, false, false, false, false, false, false, false] rfl rfl (by kernel_rfl) (fun _ _ _ h => h) (Or.inl ⟨by rfl, ?_⟩) ?_ ?_
                                        rotate_left
                                        · intro w'
                                          go_simp
                                          with_reducible rfl
                                        rotate_left
                                        · simp only [Act.put, List.setIfInBounds_toArray, List.set_cons_zero, List.set_cons_succ]
                                          rfl
                                        refine pure_ (i := 32) (N := (some 301)) (v := ?_) (a' := ?_) #[true, true, true, true, true, true, true, true, true, true, true, true, true, true, true, true, true, true, true, true, true, true, true, true, true, true, true, true, true, false, false, true, true, false, false, false, false, false, false, false, false, false, false, false, false, false, false, false] rfl rfl (by kernel_rfl) (fun _ _ _ h => h) (Or.inl ⟨by rfl, ?_⟩) ?_ ?_
                                        rotate_left
                                        · intro w'
                                          go_simp
                                          with_reducible rfl
                                        rotate_left
                                        · simp only [Act.put, List.setIfInBounds_toArray, List.set_cons_zero, List.set_cons_succ]
                                          rfl
                                        refine pure_ (i := 33) (N := (some 302)) (v := ?_) (a' := ?_) #[true, true, true, true, true, true, true, true, true, true, true, true, true, true, true, true, true, true, true, true, true, true, true, true, true, true, true, true, true, false, false, true, true, true, false, false, false, false, false, false, false, false, false, false, false, false, false, false] rfl rfl (by kernel_rfl) (fun _ _ _ h => h) (Or.inl ⟨by rfl, ?_⟩) ?_ ?_
                                        rotate_left
                                        · intro w'
                                          go_simp
                                          with_reducible rfl
                                        rotate_left
                                        · simp only [Act.put, List.setIfInBounds_toArray, List.set_cons_zero, List.set_cons_succ]
                                          rfl
                                        refine pure_ (i := 34) (N := (some 303)) (v := ?_) (a' := ?_) #[true, true, true, true, true, true, true, true, true, true, true, true, true, true, true, true, true, true, true, true, true, true, true, true, true, true, true, true, true, false, false, true, true, true, true, false, false, false, false, false, false, false, false, false, false, false, false, false] rfl rfl (by kernel_rfl) (fun _ _ _ h => h) (Or.inl ⟨by rfl, ?_⟩) ?_ ?_
                                        rotate_left
                                        · intro w'
                                          go_simp
                                          with_reducible rfl
                                        rotate_left
                                        · simp only [Act.put, List.setIfInBounds_toArray, List.set_cons_zero, List.set_cons_succ]
                                          rfl
                                        refine take_ (i := 29) (N := (some 298)) (v := ?_) (a' := ?_) #[true, true, true, true, true, true, true, true, true, true, true, true, true, true, true, true, true, true, true, true, true, true, true, true, true, true, true, true, true, true, false, true, true, true, true, false, false, false, false, false, false, false, false, false, false, false, false, false] rfl rfl (by kernel_rfl) (fun _ _ _ h => h) (Or.inl ⟨by rfl, ?_⟩) hHeld ?_ ?_
                                        rotate_left
                                        · intro w' hK
                                          have s0 := cell_kp c1 hK (fun h => h)
                                          go_simp
                                          with_reducible rfl
                                        rotate_left
                                        · simp only [Act.put, List.setIfInBounds_toArray, List.set_cons_zero, List.set_cons_succ]
                                          rfl
                                        refine take_ (i := 35) (N := (some 304)) (v := ?_) (a' := ?_) #[true, true, true, true, true, true, true, true, true, true, true, true, true, true, true, true, true, true, true, true, true, true, true, true, true, true, true, true, true, true, false, true, true, true, true, true, false, false, false, false, false, false, false, false, false, false, false, false] rfl rfl (by kernel_rfl) (fun _ _ _ h => h) (Or.inl ⟨by rfl, ?_⟩) hHeld ?_ ?_
                                        rotate_left
                                        · intro w' hK
                                          have s0 := cell_kp c4 hK (fun h => h)
                                          have s1 := cell_kp c5 hK (fun h => h)
                                          go_simp
                                          with_reducible rfl
                                        rotate_left
                                        · simp only [Act.put, List.setIfInBounds_toArray, List.set_cons_zero, List.set_cons_succ]
                                          rfl
                                        refine one_ (i := 30) (N := (some 299)) #[true, true, true, true, true, true, true, true, true, true, true, true, true, true, true, true, true, true, true, true, true, true, true, true, true, true, true, true, true, true, true, true, true, true, true, true, false, false, false, false, false, false, false, false, false, false, false, false] rfl rfl (by kernel_rfl) (by decide) (fun K hK => ?_)
                                        refine goes_ Try.func61 (by kernel_rfl) rfl #[.pointer (some ⟨po2, 0, none⟩)] (by rfl) rfl rfl (by (try simp only [List.map_toArray, List.map_cons, List.map_nil]); first | done | rfl) ?_
                                        refine (ptold PF.out.seto (by omega)).mono ?_
                                        rintro e wg ⟨ug, rfl, hug, kg0⟩
                                        obtain ⟨Ag, cg, eug⟩ := hug.slice
                                        subst eug
                                        have KG : Aside0 (Kp wc wg (fun _ => False)) := ⟨KF.out.then_ kg0 (fun _ h => .inl h)⟩
                                        have UG := Aside0.mk hug
                                        have PG := Aside0.mk (HP.out.stay KG.out)
                                        clear hug kg0
                                        refine ⟨_, rfl, ?_⟩
                                        refine hK.out _ _ KG.out (fun hHeld => ?_)
                                        clear hK K
                                        refine norm_ (a' := ?_) ?_ ?_
                                        rotate_left
                                        · show Act.put _ (some 299) _ = _
                                          simp only [Act.put, List.setIfInBounds_toArray, List.set_cons_zero, List.set_cons_succ]
                                          rfl
                                        as_aux_lemma =>
                                          refine one_ (i := 36) (N := (some 305)) #[true, true, true, true, true, true, true, true, true, true, true, true, true, true, true, true, true, true, true, true, true, true, true, true, true, true, true, true, true, true, true, true, true, true, true, true, true, false, false, false, false, false, false, false, false, false, false, false] rfl rfl (by kernel_rfl) (by decide) (fun K hK => ?_)
                                          refine goes_ Try.func38 (by kernel_rfl) rfl #[.agg #[.slice Ay B2.length cy, .int .i64 tMax]] (by rfl) rfl rfl (by (try simp only [List.map_toArray, List.map_cons, List.map_nil]); first | done | rfl) ?_
                                          refine (pruns PG.out.avo HR.out.relo l4).mono ?_
                                          rintro e wh ⟨uh, rfl, huh, kh0⟩
                                          obtain ⟨Ah, ch, euh⟩ := huh.slice
                                          subst euh
                                          have KH : Aside0 (Kp wc wh (fun _ => False)) := ⟨KG.out.then_ kh0 (fun _ h => .inl h)⟩
                                          have UH := Aside0.mk huh
                                          have UG2 := Aside0.mk (UG.out.stay kh0)
                                          clear huh kh0
                                          refine ⟨_, rfl, ?_⟩
                                          refine hK.out _ _ KH.out (fun hHeld => ?_)
                                          clear hK K
                                          refine norm_ (a' := ?_) ?_ ?_
                                          rotate_left
                                          · show Act.put _ (some 305) _ = _
                                            simp only [Act.put, List.setIfInBounds_toArray, List.set_cons_zero, List.set_cons_succ]
                                            rfl
                                          as_aux_lemma =>
                                            refine one_ (i := 37) (N := (some 306)) #[true, true, true, true, true, true, true, true, true, true, true, true, true, true, true, true, true, true, true, true, true, true, true, true, true, true, true, true, true, true, true, true, true, true, true, true, true, true, false, false, false, false, false, false, false, false, false, false] rfl rfl (by kernel_rfl) (by decide) (fun K hK => ?_)
                                            refine goes_ Try.func21 (by kernel_rfl) rfl #[.slice Ag S2.length cg, .slice Ah S2.length ch] (by rfl) rfl rfl (by (try simp only [List.map_toArray, List.map_cons, List.map_nil]); first | done | rfl) ?_
                                            refine (psame UG2.out UH.out (by omega)).mono ?_
                                            rw [show decide (S2 = S2) = true from decide_eq_true rfl]
                                            rintro e wi ⟨rfl, ki0⟩
                                            have KI : Aside0 (Kp wc wi (fun _ => False)) := ⟨KH.out.then_ ki0 (fun _ h => .inl h)⟩
                                            have PI := Aside0.mk (HP.out.stay KI.out)
                                            clear ki0
                                            refine ⟨_, rfl, ?_⟩
                                            refine hK.out _ _ KI.out (fun hHeld => ?_)
                                            clear hK K
                                            refine norm_ (a' := ?_) ?_ ?_
                                            rotate_left
                                            · show Act.put _ (some 306) _ = _
                                              simp only [Act.put, List.setIfInBounds_toArray, List.set_cons_zero, List.set_cons_succ]
                                              rfl
                                            as_aux_lemma =>
                                              refine pure_ (i := 38) (N := (some 307)) (v := ?_) (a' := ?_) #[true, true, true, true, true, true, true, true, true, true, true, true, true, true, true, true, true, true, true, true, true, true, true, true, true, true, true, true, true, true, true, true, true, true, true, true, true, true, true, false, false, false, false, false, false, false, false, false] rfl rfl (by kernel_rfl) (fun _ _ _ h => h) (Or.inl ⟨by rfl, ?_⟩) ?_ ?_
                                              rotate_left
                                              · intro w'
                                                go_simp
                                                with_reducible rfl
                                              rotate_left
                                              · simp only [Act.put, List.setIfInBounds_toArray, List.set_cons_zero, List.set_cons_succ]
                                                rfl
                                              refine pure_ (i := 39) (N := (some 308)) (v := ?_) (a' := ?_) #[true, true, true, true, true, true, true, true, true, true, true, true, true, true, true, true, true, true, true, true, true, true, true, true, true, true, true, true, true, true, true, true, true, true, true, true, true, true, true, true, false, false, false, false, false, false, false, false] rfl rfl (by kernel_rfl) (fun _ _ _ h => h) (Or.inl ⟨by rfl, ?_⟩) ?_ ?_
                                              rotate_left
                                              · intro w'
                                                go_simp
                                                with_reducible rfl
                                              rotate_left
                                              · simp only [Act.put, List.setIfInBounds_toArray, List.set_cons_zero, List.set_cons_succ]
                                                rfl
                                              refine pure_ (i := 40) (N := (some 309)) (v := ?_) (a' := ?_) #[true, true, true, true, true, true, true, true, true, true, true, true, true, true, true, true, true, true, true, true, true, true, true, true, true, true, true, true, true, true, true, true, true, true, true, true, true, true, true, true, true, false, false, false, false, false, false, false] rfl rfl (by kernel_rfl) (fun _ _ _ h => h) (Or.inl ⟨by rfl, ?_⟩) ?_ ?_
                                              rotate_left
                                              · intro w'
                                                go_simp
                                                with_reducible rfl
                                              rotate_left
                                              · simp only [Act.put, List.setIfInBounds_toArray, List.set_cons_zero, List.set_cons_succ]
                                                rfl
                                              refine pure_ (i := 41) (N := (some 310)) (v := ?_) (a' := ?_) #[true, true, true, true, true, true, true, true, true, true, true, true, true, true, true, true, true, true, true, true, true, true, true, true, true, true, true, true, true, true, true, true, true, true, true, true, true, true, true, true, true, true, false, false, false, false, false, false] rfl rfl (by kernel_rfl) (fun _ _ _ h => h) (Or.inl ⟨by rfl, ?_⟩) ?_ ?_
                                              rotate_left
                                              · intro w'
                                                go_simp
                                                with_reducible rfl
                                              rotate_left
                                              · simp only [Act.put, List.setIfInBounds_toArray, List.set_cons_zero, List.set_cons_succ]
                                                rfl
                                              refine pure_ (i := 43) (N := (some 312)) (v := ?_) (a' := ?_) #[true, true, true, true, true, true, true, true, true, true, true, true, true, true, true, true, true, true, true, true, true, true, true, true, true, true, true, true, true, true, true, true, true, true, true, true, true, true, true, true, true, true, false, true, false, false, false, false] rfl rfl (by kernel_rfl) (fun _ _ _ h => h) (Or.inl ⟨by rfl, ?_⟩) ?_ ?_
                                              rotate_left
                                              · intro w'
                                                go_simp
                                                with_reducible rfl
                                              rotate_left
                                              · simp only [Act.put, List.setIfInBounds_toArray, List.set_cons_zero, List.set_cons_succ]
                                                rfl
                                              refine one_ (i := 42) (N := (some 311)) #[true, true, true, true, true, true, true, true, true, true, true, true, true, true, true, true, true, true, true, true, true, true, true, true, true, true, true, true, true, true, true, true, true, true, true, true, true, true, true, true, true, true, true, true, false, false, false, false] rfl rfl (by kernel_rfl) (by decide) (fun K hK => ?_)
                                              refine goes_ Try.func62 (by kernel_rfl) rfl #[.pointer (some ⟨pk, 0, none⟩)] (by rfl) rfl rfl (by (try simp only [List.map_toArray, List.map_cons, List.map_nil]); first | done | rfl) ?_
                                              refine (len_calls PI.out.setk).mono ?_
                                              rintro e wj ⟨rfl, rfl⟩
                                              refine ⟨_, rfl, ?_⟩
                                              refine hK.out _ _ KI.out (fun hHeld => ?_)
                                              clear hK K
                                              refine norm_ (a' := ?_) ?_ ?_
                                              rotate_left
                                              · show Act.put _ (some 311) _ = _
                                                simp only [Act.put, List.setIfInBounds_toArray, List.set_cons_zero, List.set_cons_succ]
                                                rfl
                                              as_aux_lemma =>
                                                refine one_ (i := 44) (N := (some 313)) #[true, true, true, true, true, true, true, true, true, true, true, true, true, true, true, true, true, true, true, true, true, true, true, true, true, true, true, true, true, true, true, true, true, true, true, true, true, true, true, true, true, true, true, true, true, false, false, false] rfl rfl (by kernel_rfl) (by decide) (fun K hK => ?_)
                                                refine goes_ Try.func61 (by kernel_rfl) rfl #[.pointer (some ⟨pk, 0, none⟩)] (by rfl) rfl rfl (by (try simp only [List.map_toArray, List.map_cons, List.map_nil]); first | done | rfl) ?_
                                                refine (ptold PI.out.setk (by omega)).mono ?_
                                                rintro e wl ⟨ul, rfl, hul, kl0⟩
                                                obtain ⟨Al, cl, eul⟩ := hul.slice
                                                subst eul
                                                have KL : Aside0 (Kp wc wl (fun _ => False)) := ⟨KI.out.then_ kl0 (fun _ h => .inl h)⟩
                                                clear hul kl0
                                                refine ⟨_, rfl, ?_⟩
                                                refine hK.out _ _ KL.out (fun hHeld => ?_)
                                                clear hK K
                                                refine norm_ (a' := ?_) ?_ ?_
                                                rotate_left
                                                · show Act.put _ (some 313) _ = _
                                                  simp only [Act.put, List.setIfInBounds_toArray, List.set_cons_zero, List.set_cons_succ]
                                                  rfl
                                                as_aux_lemma =>
                                                  refine pure_ (i := 45) (N := (some 314)) (v := ?_) (a' := ?_) #[true, true, true, true, true, true, true, true, true, true, true, true, true, true, true, true, true, true, true, true, true, true, true, true, true, true, true, true, true, true, true, true, true, true, true, true, true, true, true, true, true, true, true, true, true, true, false, false] rfl rfl (by kernel_rfl) (fun _ _ _ h => h) (Or.inl ⟨by rfl, ?_⟩) ?_ ?_
                                                  rotate_left
                                                  · intro w'
                                                    go_simp
                                                    with_reducible rfl
                                                  rotate_left
                                                  · simp only [Act.put, List.setIfInBounds_toArray, List.set_cons_zero, List.set_cons_succ]
                                                    rfl
                                                  refine pure_ (i := 46) (N := (some 315)) (v := .bool false) (a' := ?_) #[true, true, true, true, true, true, true, true, true, true, true, true, true, true, true, true, true, true, true, true, true, true, true, true, true, true, true, true, true, true, true, true, true, true, true, true, true, true, true, true, true, true, true, true, true, true, true, false] rfl rfl (by kernel_rfl) (fun _ _ _ h => h) (Or.inl ⟨by rfl, ?_⟩) ?_ ?_
                                                  · intro w'
                                                    go_simp
                                                    try simp
                                                  rotate_left
                                                  · simp only [Act.put, List.setIfInBounds_toArray, List.set_cons_zero, List.set_cons_succ]
                                                    rfl
                                                  refine pure_ (i := 47) (N := (some 316)) (v := ?_) (a' := ?_) #[true, true, true, true, true, true, true, true, true, true, true, true, true, true, true, true, true, true, true, true, true, true, true, true, true, true, true, true, true, true, true, true, true, true, true, true, true, true, true, true, true, true, true, true, true, true, true, true] rfl rfl (by kernel_rfl) (fun _ _ _ h => h) (Or.inl ⟨by rfl, ?_⟩) ?_ ?_
                                                  rotate_left
                                                  · intro w'
                                                    go_simp
                                                    with_reducible rfl
                                                  rotate_left
                                                  · simp only [Act.put, List.setIfInBounds_toArray, List.set_cons_zero, List.set_cons_succ]
                                                    rfl
                                                  refine done_ (by kernel_rfl) ?_
                                                  refine NoPanic.normal ?_
                                                  as_aux_lemma =>
                                                    have HZ : Aside0 (Hd w wl sb (sb + 1) (n + 1)) := ⟨Hk.to ⟨pk, po2, _, _, _, _, _, _, _, _, HP.out.stay KL.out, HR.out⟩ hk⟩
                                                    clear HP HR c0 c1 c2 c3 c4 c5 PD PF PG PI
                                                    go_wp2
                                                    go_roundg (40 - (n + 1))
                                                    case measure => omega
                                                    case rel => exact ⟨n + 1, by omega, by omega, rfl, by go_num, HZ⟩
    · skip
      as_aux_lemma =>
        have hk0 : Kp w wr (fun _ => False) := by obtain ⟨_, _, _, _, _, _, _, _, _, _, h, _⟩ := HH.out; exact h.kept
        have HK0 := Aside0.mk hk0
        clear hk0 HH HSC
        by_cases h1 : n < len
        · have h2 : ¬ (n : Int) < 40 := by omega
          have h3 : (n : Int) < (len : Int) := by omega
          clear hlt
          go_wp2
          go_ret
          exact ⟨rfl, HK0.out⟩
        · have h3 : ¬ (n : Int) < (len : Int) := by omega
          clear hlt
          go_wp2
          go_ret
          exact ⟨rfl, HK0.out⟩
end Go.Proofs.Ytbaciaolhfmfkaa.Si8
