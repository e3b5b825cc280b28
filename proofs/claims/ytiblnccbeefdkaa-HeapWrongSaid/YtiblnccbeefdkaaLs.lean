/- This text proves the law HeapSorts as a walk: true whatever the ranks. -/
import Derived.Test.YtiblnccbeefdkaaAw
import Derived.Test.YtiblnccbeefdkaaGii
namespace Go.Proofs.Ytiblnccbeefdkaa.Ls
open Go.RowKit Go.Proofs.YtiblnccbeefdkaaW.PrintWords Go.Proofs.Ytiblnccbeefdkaa.Mp Go.Proofs.Ytiblnccbeefdkaa.Hp Go.Proofs.Ytiblnccbeefdkaa.Aw
set_option linter.unusedVariables false

/-- the k-th key as it is put in -/
def itOf (l : List Int) (k : Nat) : It Int Int := ⟨k, l.getD k 0, (k : Int) + 1⟩
def itemsTo (l : List Int) (n : Nat) : List (It Int Int) := (List.range n).map (itOf l)
theorem itemsTo_succ (l : List Int) (n : Nat) : itemsTo l (n + 1) = itemsTo l n ++ [itOf l n] := by simp [itemsTo, List.range_succ]
theorem itemsTo_len (l : List Int) (n : Nat) : (itemsTo l n).length = n := by simp [itemsTo]
theorem itemsTo_mem (l : List Int) (n : Nat) {x : It Int Int} (h : x ∈ itemsTo l n) : ∃ k, k < n ∧ x = itOf l k := by
  obtain ⟨k, hk, rfl⟩ := List.mem_map.1 h
  exact ⟨k, List.mem_range.1 hk, rfl⟩
theorem not_key {l : List Int} {n : Nat} {L : List (It Int Int)} (h : L.Perm (itemsTo l n)) : (n : Int) ∉ keys L := by
  intro hk
  obtain ⟨x, hx, hxk⟩ := List.mem_map.1 hk
  obtain ⟨k, hkn, rfl⟩ := itemsTo_mem l n (h.mem_iff.1 hx)
  have : (k : Int) = n := hxk
  omega
/-- a number of the list, in any later world -/
theorem row_at {w wr : World} {A : Option Addr} {l : List Int} (hr : Kd.C (Kd.int .i64) w A l.length l) (hk : Kp w wr (fun _ => False)) (k : Nat) (h : k < l.length) : ∃ ad, A = some ad ∧ wr.cell? (ad.add k) = some (.int .i64 (l.getD k 0)) := by
  obtain ⟨ad, e, hc⟩ := (Kd.reads_of_C (enc := Value.int .i64) (d := (0 : Int)) (h1 := fun _ => rfl) hr).at_ (k : Int) (by omega) (by omega)
  rw [show rdOf (0 : Int) l k = l.getD k 0 from by simp [rdOf, h], Int.toNat_natCast] at hc
  exact ⟨ad, e, cell_kp hc hk (fun h => h)⟩

/-- the heap at a point of the law -/
structure St (w wr : World) (hb pb : Nat) (lv sv : Value) (L : List (It Int Int)) (c : Int) : Prop where
  rep : Rep Hii.F wr w.heap.size hb pb lv sv L c
  heap : Heap L
  kept : Kp w wr (fun _ => False)
  own : ∀ b, sv.ownBlock = some b → w.heap.size ≤ b

theorem st_new {w w1 : World} {hb pb : Nat} {lv : Value} (R : Rep Hii.F w1 w.heap.size hb pb lv (.slice none 0 0) [] 0) (K : Kp w w1 (fun _ => False)) : St w w1 hb pb lv (.slice none 0 0) [] 0 := ⟨R, heap_nil, K, fun b h => by cases h⟩
theorem st_kept {w wr w2 : World} {hb pb : Nat} {lv sv : Value} {L : List (It Int Int)} {c : Int} (h : St w wr hb pb lv sv L c) (K : Kp wr w2 (fun _ => False)) : St w w2 hb pb lv sv L c :=
  ⟨h.rep.kept K (fun _ h => h.elim), h.heap, h.kept.then_ K (fun _ h => h.elim), h.own⟩
theorem st_write {w wr w2 : World} {hb pb : Nat} {lv sv sv2 : Value} {L L2 : List (It Int Int)} {c c2 : Int} (h : St w wr hb pb lv sv L c) (K : Kp wr w2 (fun k => Mine hb pb sv k ∨ False)) (R : Rep Hii.F w2 w.heap.size hb pb lv sv2 L2 c2) (hH : Heap L2)
    (hf : ∀ b, sv2.ownBlock = some b → sv.ownBlock = some b ∨ wr.heap.size ≤ b) : St w w2 hb pb lv sv2 L2 c2 :=
  ⟨R, hH, kept_new h.kept K h.rep.hbase h.rep.pbase h.own, fun b hb => (hf b hb).elim (h.own b) (Nat.le_trans h.kept.size)⟩

set_option maxHeartbeats 4000000 in
set_option maxRecDepth 100000 in
theorem sorts_calls (A : Option Addr) (cap : Nat) (l : List Int) (w : World) (hr : Kd.C (Kd.int .i64) w A l.length l) (hlc : l.length ≤ cap) :
    Calls Try.prog 3 #[.slice A l.length cap] w fun e w' => e = .returned (.bool true) ∧ Kp w w' (fun _ => False) := by
  have hlen : l.length ≤ 9223372036854775807 := hr.2.1
  have HR := Aside0.mk hr
  clear hr
  have HL := Aside0.mk (ok9 w.heap.size)
  obtain ⟨n, hn⟩ : ∃ n : Nat, n = min l.length 400 := ⟨_, rfl⟩
  have hn4 : n ≤ 400 := by omega
  have hnl : n ≤ l.length := by omega
  have hmin : (if (400 : Int) < (l.length : Int) then (400 : Int) else (l.length : Int)) = (n : Int) := by split <;> omega
  clear hn
  go_enter Try.func3, Try.ntmps3
  go_wp2_with fail
  refine (Hii.new_calls 9 #[] w).mono ?_
  rintro e w1 ⟨rfl, R1, K1⟩
  have S1 := Aside0.mk (st_new R1 K1)
  clear R1 K1
  go_wp2_with fail
  refine (awake_calls w1).mono ?_
  rintro e w2 ⟨rfl, K2⟩
  have S2 := Aside0.mk (st_kept S1.out K2)
  clear K2 S1
  go_wp2_with fail
  go_loopw [5] (fun kv wr => ∃ k : Nat, k ≤ n ∧ kv = .int .i64 k ∧ Aside0 (∃ sv L, St w wr (w.heap.size + 1) w.heap.size (.func (.func 9) #[] #[]) sv L k ∧ L.Perm (itemsTo l k))) (fun kv _ => n - (intOf kv).toNat)
  case atStart => exact ⟨0, by omega, rfl, ⟨_, _, S2.out, List.Perm.refl _⟩⟩
  case round =>
    clear S2
    obtain ⟨k, hk, rfl, HS⟩ := hrel
    by_cases hlt : k < n
    · obtain ⟨sv, L, S, hP⟩ := HS.out
      obtain ⟨ad, rfl, hc⟩ := row_at HR.out S.kept k (by omega)
      have HS1 := Aside0.mk S
      have HP := Aside0.mk hP
      have HX : Aside0 (l.getD k 0 = (itOf l k).rank) := ⟨rfl⟩
      generalize hx : l.getD k 0 = x at *
      have HXX := Aside0.mk hx
      clear S hP HS hx
      have hln : L.length = k := by rw [HP.out.length_eq, itemsTo_len]
      have HLN := Aside0.mk hln
      clear hln
      go_wp2_with fail
      refine (Hii.push_calls HL.out _ _ sv L k _ (k : Int) x (by rw [HLN.out]; omega) (by omega) (by omega) (not_key HP.out) HS1.out.rep trivial).mono ?_
      rintro e w5 ⟨rfl, sv5, L5, u5, R5, P5, _, K5, F5⟩
      have hit : itOf l k = ⟨(k : Int), x, (k : Int) + 1⟩ := by unfold itOf; rw [HXX.out]
      have FIN : Aside0 (∃ sv L, St w w5 (w.heap.size + 1) w.heap.size (.func (.func 9) #[] #[]) sv L ((k + 1 : Nat) : Int) ∧ L.Perm (itemsTo l (k + 1))) :=
        ⟨sv5, L5, by rw [show ((k + 1 : Nat) : Int) = (k : Int) + 1 by omega]; exact st_write HS1.out K5 R5 (push_heap HS1.out.heap u5) F5, by rw [itemsTo_succ, hit]; exact P5.trans (HP.out.append_right _)⟩
      clear u5 R5 P5 K5 F5 hit HS1 HP HX HXX HLN
      go_wp2
      go_roundw
      case measure => simp [intOf]; omega
      case rel => exact ⟨k + 1, by omega, by go_num, FIN⟩
    · obtain rfl : k = n := by omega
      have HB : Aside0 (∃ sv L, St w wr (w.heap.size + 1) w.heap.size (.func (.func 9) #[] #[]) sv L k ∧ (∀ z ∈ L, ∃ j, j < k ∧ z = itOf l j) ∧ L.length + 0 = k) := ⟨by
        obtain ⟨sv, L, S, hP⟩ := HS.out
        exact ⟨sv, L, S, fun z hz => itemsTo_mem l k (hP.mem_iff.1 hz), by rw [hP.length_eq, itemsTo_len]; rfl⟩⟩
      clear HS
      go_wp2_with fail
      go_loopw [6, 7, 8, 9, 10] (fun lav iv _ _ _ wr => ∃ (i : Nat) (la : Int), i ≤ k ∧ iv = .int .i64 i ∧ lav = .int .i64 la ∧ Aside0 (∃ sv L, St w wr (w.heap.size + 1) w.heap.size (.func (.func 9) #[] #[]) sv L k ∧ (∀ z ∈ L, ∃ j, j < k ∧ z = itOf l j) ∧ L.length + i = k ∧ (la = -1 ∨ ∃ m : Nat, m < k ∧ la = m ∧ ∀ z ∈ L, ¬ Lt z (itOf l m)))) (fun _ iv _ _ _ _ => k - (intOf iv).toNat)
      case atStart => exact ⟨0, -1, by omega, rfl, rfl, ⟨by obtain ⟨sv, L, S, h1, h2⟩ := HB.out; exact ⟨sv, L, S, h1, h2, .inl rfl⟩⟩⟩
      case round =>
        clear HB
        obtain ⟨i, la, hi, rfl, rfl, HS⟩ := hrel
        by_cases hlt2 : i < k
        · obtain ⟨sv, L, S, hA, hlen2, hla⟩ := HS.out
          clear HS
          obtain ⟨x, hx⟩ : ∃ x, L[0]? = some x := ⟨_, List.getElem?_eq_getElem (by omega)⟩
          obtain ⟨j, hj, rfl⟩ := hA x (List.mem_of_getElem? hx)
          obtain ⟨ad, rfl, hc0⟩ := row_at HR.out S.kept j (by omega)
          have HS1 := Aside0.mk S
          have HX := Aside0.mk hx
          have HA := Aside0.mk hA
          have HN := Aside0.mk hlen2
          have HC0 := Aside0.mk hc0
          have hmin2 : ∀ y, y ∈ L → ¬ Lt y (itOf l j) := fun y hy => S.heap.least_mem hx hy
          have HM := Aside0.mk hmin2
          clear S hx hA hlen2 hc0 hmin2
          have HLA := Aside0.mk hla
          clear hla
          go_wp2_with fail
          refine (Hii.pop_cons HL.out HS1.out.rep trivial HX.out (by have := HN.out; omega)).mono ?_
          rintro e w5 ⟨rfl, sv5, L5, D5, R5, _, K5, O5⟩
          have P5 := DropR.perm D5 HX.out
          have S5 : St w w5 (w.heap.size + 1) w.heap.size (.func (.func 9) #[] #[]) sv5 L5 k := st_write HS1.out K5 R5 (D5.heap HX.out HS1.out.heap) (fun b hb => .inl (by rw [← O5]; exact hb))
          have REL : Aside0 (∃ sv L, St w w5 (w.heap.size + 1) w.heap.size (.func (.func 9) #[] #[]) sv L k ∧ (∀ z ∈ L, ∃ j, j < k ∧ z = itOf l j) ∧ L.length + (i + 1) = k ∧ ((j : Int) = -1 ∨ ∃ m : Nat, m < k ∧ (j : Int) = m ∧ ∀ z ∈ L, ¬ Lt z (itOf l m))) :=
            ⟨sv5, L5, S5, fun z hz => HA.out z (P5.mem_iff.1 (List.mem_cons_of_mem _ hz)), by have := P5.length_eq; rw [List.length_cons] at this; have := HN.out; omega, .inr ⟨j, hj, rfl, fun z hz => HM.out z (P5.mem_iff.1 (List.mem_cons_of_mem _ hz))⟩⟩
          have HAT := Aside0.mk (fun m (h : m < l.length) => row_at HR.out S5.kept m h)
          obtain ⟨ad2, hade, hc⟩ := HAT.out j (by omega)
          obtain rfl : ad = ad2 := by simpa using hade
          clear hade D5 R5 K5 O5 P5 S5 HS1 HA HN HC0
          have hk1 : (itOf l j).key = (j : Int) := rfl
          have hr1 : (itOf l j).rank = l.getD j 0 := rfl
          rw [hk1, hr1]
          generalize hxj : l.getD j 0 = xj at *
          have HXJ := Aside0.mk hxj
          clear hxj hk1 hr1
          have hjk : (j : Int) < (k : Int) := by omega
          rcases HLA.out with hla | ⟨m, hm, hla, hmin⟩
          · subst hla
            clear HLA HM HX
            go_wp2
            go_roundw
            case measure => simp [intOf]; omega
            case rel => exact ⟨i + 1, (j : Int), by omega, by go_num, rfl, REL⟩
          · subst hla
            have hle := hmin (itOf l j) (List.mem_of_getElem? HX.out)
            obtain ⟨ad3, hade3, hc3⟩ := HAT.out m (by omega)
            obtain rfl : ad = ad3 := by simpa using hade3
            have hle2 : ¬ (xj < l.getD m 0) ∧ (xj = l.getD m 0 → ¬ ((j : Int) < (m : Int))) := by
              have e : (itOf l j).rank = xj := HXJ.out
              have e2 : (itOf l m).rank = l.getD m 0 := rfl
              have e3 : (itOf l j).came = (j : Int) + 1 := rfl
              have e4 : (itOf l m).came = (m : Int) + 1 := rfl
              unfold Lt at hle
              rw [e, e2, e3, e4] at hle
              constructor <;> omega
            generalize l.getD m 0 = xm at *
            obtain ⟨hl1, hl2⟩ := hle2
            clear HLA HM HX hmin hle hade3
            by_cases he : xj = xm
            · have hl3 := hl2 he
              subst he
              clear hl2
              go_wp2
              go_roundw
              case measure => simp [intOf]; omega
              case rel => exact ⟨i + 1, (j : Int), by omega, by go_num, rfl, REL⟩
            · have t1 : (xj == xm) = false := by simpa using he
              clear hl2
              go_wp2
              go_roundw
              case measure => simp [intOf]; omega
              case rel => exact ⟨i + 1, (j : Int), by omega, by go_num, rfl, REL⟩
        · obtain ⟨sv, L, S, hA, hlen2, _⟩ := HS.out
          clear HS
          have hL : L = [] := List.eq_nil_of_length_eq_zero (by omega)
          have HS1 := Aside0.mk S
          have HE := Aside0.mk hL
          clear S hA hlen2 hL
          go_wp2_with fail
          refine (Hii.pop_nil HS1.out.rep HE.out).mono ?_
          rintro e w' ⟨rfl, rfl⟩
          go_wp2
          go_ret
          exact ⟨rfl, HS1.out.kept⟩
theorem sorts (A : Option Addr) (cap : Nat) (l : List Int) (w : World) (hr : Kd.C (Kd.int .i64) w A l.length l) (hlc : l.length ≤ cap) (_ : ∀ n ∈ l, (Lit.int .i64 n).wf = true) (_ : l.length * 8 ≤ 140737488351232) :
    Calls Try.prog 3 #[.slice A l.length cap] w fun e w' => e = .returned (.bool true) ∧ Below w.heap.size w w' :=
  (sorts_calls A cap l w hr hlc).mono fun _ _ h => ⟨h.1, h.2.to_below⟩
end Go.Proofs.Ytiblnccbeefdkaa.Ls
