/- This text proves the law HeapLowers as a walk: true whatever the ranks. -/
import Derived.Test.YtiblnccbeefdkaaLs
import Derived.Deep.RegionHeld3
namespace Go.Proofs.Ytiblnccbeefdkaa.Ll
open Go.RowKit Go.Proofs.YtiblnccbeefdkaaW.PrintWords Go.Proofs.Ytiblnccbeefdkaa.Mp Go.Proofs.Ytiblnccbeefdkaa.Hp Go.Proofs.Ytiblnccbeefdkaa.Aw Go.Proofs.Ytiblnccbeefdkaa.Ls
set_option linter.unusedVariables false

/-- the rank of the k-th key where it has been lowered -/
def low (l m : List Int) (k : Nat) : Int := if k < m.length then (if m.getD k 0 < l.getD k 0 then m.getD k 0 else l.getD k 0) else l.getD k 0
/-- the ranks of the keys, those from q on lowered -/
def lows (l m : List Int) (q n : Nat) : List Int := (List.range n).map (fun k => if k < q then l.getD k 0 else low l m k)
theorem lows_get (l m : List Int) (q n k : Nat) (h : k < n) : (lows l m q n).getD k 0 = if k < q then l.getD k 0 else low l m k := by
  simp [lows, List.getD_eq_getElem?_getD, h]
theorem itemsTo_get (l : List Int) (n k : Nat) (h : k < n) : (itemsTo l n)[k]? = some (itOf l k) := by simp [itemsTo, h]
theorem itemsTo_congr {l m : List Int} {n : Nat} (h : ∀ k, k < n → l.getD k 0 = m.getD k 0) : itemsTo l n = itemsTo m n := by
  unfold itemsTo
  refine List.map_congr_left fun k hk => ?_
  unfold itOf
  rw [h k (List.mem_range.1 hk)]

theorem perm_eraseIdx {α : Type} {L : List α} {i : Nat} {x : α} (hx : L[i]? = some x) : (x :: L.eraseIdx i).Perm L := by
  induction L generalizing i with
  | nil => cases hx
  | cons a L ih =>
    cases i with
    | zero =>
      obtain rfl : a = x := by simpa using hx
      exact List.Perm.refl _
    | succ i =>
      rw [List.eraseIdx_cons_succ]
      exact (List.Perm.swap a x _).trans ((ih (by simpa using hx)).cons a)
theorem perm_set {α : Type} {L : List α} {i : Nat} (hi : i < L.length) (y : α) : (L.set i y).Perm (y :: L.eraseIdx i) := by
  have h : (L.set i y)[i]? = some y := List.getElem?_set_self hi
  have h2 := perm_eraseIdx h
  rw [List.eraseIdx_set_eq] at h2
  exact h2.symm
/-- one item turned, in two lists that are alike -/
theorem set_perm {α : Type} {L M : List α} {i k : Nat} {x y : α} (h : L.Perm M) (hx : L[i]? = some x) (hy : M[k]? = some x) : (L.set i y).Perm (M.set k y) := by
  have hi := (List.getElem?_eq_some_iff.1 hx).1
  have hk := (List.getElem?_eq_some_iff.1 hy).1
  have h1 : (L.eraseIdx i).Perm (M.eraseIdx k) := (List.perm_cons x).1 ((perm_eraseIdx hx).trans (h.trans (perm_eraseIdx hy).symm))
  exact (perm_set hi y).trans ((h1.cons y).trans (perm_set hk y).symm)

/-- one rank lowered -/
theorem lows_step (l m : List Int) (q n : Nat) (h : q < n) : itemsTo (lows l m q n) n = (itemsTo (lows l m (q + 1) n) n).set q ⟨q, low l m q, (q : Int) + 1⟩ := by
  apply List.ext_getElem?
  intro k
  by_cases hk : k < n
  · rw [itemsTo_get _ _ _ hk]
    by_cases hq : q = k
    · subst hq
      rw [List.getElem?_set_self (by rw [itemsTo_len]; exact hk)]
      unfold itOf
      rw [lows_get _ _ _ _ _ hk, if_neg (by omega)]
    · rw [List.getElem?_set_ne hq, itemsTo_get _ _ _ hk]
      unfold itOf
      rw [lows_get _ _ _ _ _ hk, lows_get _ _ _ _ _ hk]
      by_cases h1 : k < q
      · rw [if_pos h1, if_pos (by omega)]
      · rw [if_neg h1, if_neg (by omega)]
  · rw [List.getElem?_eq_none (by rw [itemsTo_len]; omega), List.getElem?_eq_none (by rw [List.length_set, itemsTo_len]; omega)]

/-- two heaps of the same items have the same first -/
theorem same_first {l : List Int} {n : Nat} {L M : List (It Int Int)} (hL : Heap L) (hM : Heap M) (hp : L.Perm M) (hA : ∀ z ∈ L, ∃ j, j < n ∧ z = itOf l j) {x y : It Int Int} (hx : L[0]? = some x) (hy : M[0]? = some y) : x = y := by
  have h1 := hL.least_mem hx (hp.mem_iff.2 (List.mem_of_getElem? hy))
  have h2 := hM.least_mem hy (hp.mem_iff.1 (List.mem_of_getElem? hx))
  obtain ⟨j, _, rfl⟩ := hA x (List.mem_of_getElem? hx)
  obtain ⟨k, _, rfl⟩ := hA y (hp.mem_iff.2 (List.mem_of_getElem? hy))
  have e3 : (itOf l j).came = (j : Int) + 1 := rfl
  have e4 : (itOf l k).came = (k : Int) + 1 := rfl
  unfold Lt at h1 h2
  rw [e3, e4] at h1 h2
  obtain rfl : j = k := by omega
  rfl

/-- two heaps at a point of the law -/
structure St2 (w wr : World) (hb pb : Nat) (lv sv : Value) (L : List (It Int Int)) (c : Int) (hb2 pb2 : Nat) (sv2 : Value) (L2 : List (It Int Int)) (c2 : Int) : Prop where
  one : St w wr hb pb lv sv L c
  two : St w wr hb2 pb2 lv sv2 L2 c2
  dis : ∀ k, Mine hb pb sv k → ¬ Mine hb2 pb2 sv2 k
section
variable {w wr w2 : World} {hb pb hb2 pb2 : Nat} {lv sv sv2 sv' : Value} {L L2 L' : List (It Int Int)} {c c2 c' : Int}
theorem rep_less {F : HForm Int Int} {base base' : Nat} (R : Rep F w base hb pb lv sv L c) (h : base' ≤ base) : Rep F w base' hb pb lv sv L c := by
  refine ⟨R.head, ?_, R.map, R.nodup, Nat.le_trans h R.hbase, Nat.le_trans h R.pbase⟩
  obtain ⟨h1, h2⟩ := R.own
  exact ⟨h1, h2.imp id fun ⟨g, cap, cur, he, hb, hr⟩ => ⟨g, cap, cur, he, Nat.le_trans h hb, hr⟩⟩
theorem rep_lt {F : HForm Int Int} {base : Nat} (R : Rep F w base hb pb lv sv L c) {k : Nat} (h : Mine hb pb sv k) : k < w.heap.size := by
  rcases h with rfl | rfl | h
  · exact blk_lt R.head
  · exact R.map.lt
  · rcases R.own.2 with ⟨hv, _⟩ | ⟨g, cap, cur, hv, _, hg, _⟩
    · rw [hv] at h; cases h
    · rw [hv] at h
      simp [Value.ownBlock] at h
      subst h
      exact blk_lt hg
theorem St2.symm (h : St2 w wr hb pb lv sv L c hb2 pb2 sv2 L2 c2) : St2 w wr hb2 pb2 lv sv2 L2 c2 hb pb sv L c := ⟨h.two, h.one, fun k h2 h1 => h.dis k h1 h2⟩
theorem St2.write (h : St2 w wr hb pb lv sv L c hb2 pb2 sv2 L2 c2) (K : Kp wr w2 (fun k => Mine hb pb sv k ∨ False)) (R : Rep Hii.F w2 w.heap.size hb pb lv sv' L' c') (hH : Heap L')
    (hf : ∀ b, sv'.ownBlock = some b → sv.ownBlock = some b ∨ wr.heap.size ≤ b) : St2 w w2 hb pb lv sv' L' c' hb2 pb2 sv2 L2 c2 := by
  have K2 : Kp w w2 (fun _ => False) := kept_new h.one.kept K h.one.rep.hbase h.one.rep.pbase h.one.own
  refine ⟨st_write h.one K R hH hf, ⟨h.two.rep.kept K (fun k hk h2 => hk.elim (fun hk => h.dis k hk h2) (fun f => f)), h.two.heap, K2, h.two.own⟩, ?_⟩
  rintro k (rfl | rfl | hk) h2
  · exact h.dis _ (.inl rfl) h2
  · exact h.dis _ (.inr (.inl rfl)) h2
  · rcases hf k hk with h3 | h3
    · exact h.dis k (.inr (.inr h3)) h2
    · have := rep_lt h.two.rep h2; omega
theorem St2.kept (h : St2 w wr hb pb lv sv L c hb2 pb2 sv2 L2 c2) (K : Kp wr w2 (fun _ => False)) : St2 w w2 hb pb lv sv L c hb2 pb2 sv2 L2 c2 := ⟨st_kept h.one K, st_kept h.two K, h.dis⟩
theorem st2_new {w w1 w3 : World} {lv : Value} (R1 : Rep Hii.F w1 w.heap.size hb pb lv (.slice none 0 0) [] 0) (K1 : Kp w w1 (fun _ => False)) (R2 : Rep Hii.F w3 w1.heap.size hb2 pb2 lv (.slice none 0 0) [] 0) (K2 : Kp w1 w3 (fun _ => False)) :
    St2 w w3 hb pb lv (.slice none 0 0) [] 0 hb2 pb2 (.slice none 0 0) [] 0 := by
  have S1 := st_kept (st_new R1 K1) K2
  refine ⟨S1, ⟨rep_less R2 K1.size, heap_nil, K1.then_ K2 (fun _ h => h.elim), fun b h => by cases h⟩, ?_⟩
  intro k h1 h2
  have a := rep_lt R1 h1
  rcases h2 with rfl | rfl | h
  · have := R2.hbase; omega
  · have := R2.pbase; omega
  · cases h
end

/-- both heaps when k keys have been put in -/
def Rel1 (w wr : World) (hb pb hb2 pb2 : Nat) (l m : List Int) (n k : Nat) : Prop :=
  ∃ sv L sv2 L2, St2 w wr hb pb (.func (.func 13) #[] #[]) sv L k hb2 pb2 sv2 L2 k ∧ L.Perm (itemsTo l k) ∧ L2.Perm (itemsTo (lows l m 0 n) k)
/-- .. and when the ranks from q on have been lowered -/
def Rel2 (w wr : World) (hb pb hb2 pb2 : Nat) (l m : List Int) (n q : Nat) : Prop :=
  ∃ sv L sv2 L2, St2 w wr hb pb (.func (.func 13) #[] #[]) sv L n hb2 pb2 sv2 L2 n ∧ L.Perm (itemsTo (lows l m q n) n) ∧ L2.Perm (itemsTo (lows l m 0 n) n)
/-- .. and when i keys have been taken out of each -/
def Rel3 (w wr : World) (hb pb hb2 pb2 : Nat) (ll : List Int) (n i : Nat) : Prop :=
  ∃ sv L sv2 L2, St2 w wr hb pb (.func (.func 13) #[] #[]) sv L n hb2 pb2 sv2 L2 n ∧ L.Perm L2 ∧ L.length = n - i ∧ ∀ z ∈ L, ∃ j, j < n ∧ z = itOf ll j

theorem rel12 {w wr : World} {hb pb hb2 pb2 : Nat} {l m : List Int} {n : Nat} (h : Rel1 w wr hb pb hb2 pb2 l m n n) : Rel2 w wr hb pb hb2 pb2 l m n n := by
  obtain ⟨sv, L, sv2, L2, S, p1, p2⟩ := h
  refine ⟨sv, L, sv2, L2, S, ?_, p2⟩
  rw [itemsTo_congr (m := l) (fun k hk => by rw [lows_get _ _ _ _ _ hk, if_pos hk])]
  exact p1
theorem rel23 {w wr : World} {hb pb hb2 pb2 : Nat} {l m : List Int} {n : Nat} (h : Rel2 w wr hb pb hb2 pb2 l m n 0) : Rel3 w wr hb pb hb2 pb2 (lows l m 0 n) n 0 := by
  obtain ⟨sv, L, sv2, L2, S, p1, p2⟩ := h
  exact ⟨sv, L, sv2, L2, S, p1.trans p2.symm, by rw [p1.length_eq, itemsTo_len]; rfl, fun z hz => itemsTo_mem _ _ (p1.mem_iff.1 hz)⟩
theorem rel2_same {w wr : World} {hb pb hb2 pb2 : Nat} {l m : List Int} {n q : Nat} (h : Rel2 w wr hb pb hb2 pb2 l m n (q + 1)) (hl : low l m q = l.getD q 0) : Rel2 w wr hb pb hb2 pb2 l m n q := by
  obtain ⟨sv, L, sv2, L2, S, p1, p2⟩ := h
  refine ⟨sv, L, sv2, L2, S, ?_, p2⟩
  rw [itemsTo_congr (m := lows l m (q + 1) n) (fun k hk => by
    rw [lows_get _ _ _ _ _ hk, lows_get _ _ _ _ _ hk]
    by_cases h1 : k < q
    · rw [if_pos h1, if_pos (by omega)]
    · by_cases h2 : k = q
      · subst h2; rw [if_neg h1, if_pos (by omega), hl]
      · rw [if_neg h1, if_neg (by omega)])]
  exact p1

theorem Rel2.kept {w wr w2 : World} {hb pb hb2 pb2 : Nat} {l m : List Int} {n q : Nat} (h : Rel2 w wr hb pb hb2 pb2 l m n q) (K : Kp wr w2 (fun _ => False)) : Rel2 w w2 hb pb hb2 pb2 l m n q := by
  obtain ⟨sv, L, sv2, L2, S, p1, p2⟩ := h
  exact ⟨sv, L, sv2, L2, S.kept K, p1, p2⟩
theorem rel2_low {w wr w5 : World} {hb pb hb2 pb2 : Nat} {sv sv2 : Value} {L L2 : List (It Int Int)} {l m : List Int} {n j i : Nat} (S : St2 w wr hb pb (.func (.func 13) #[] #[]) sv L n hb2 pb2 sv2 L2 n)
    (hP : L.Perm (itemsTo (lows l m (j + 1) n) n)) (hP2 : L2.Perm (itemsTo (lows l m 0 n) n)) (hx : L[i]? = some ⟨(j : Int), l.getD j 0, (j : Int) + 1⟩) (hj : j < n) (hjm : j < m.length) {r : Bool} (hr : LT (m.getD j 0) (l.getD j 0) r)
    (K5 : Kp wr w5 (fun k => Mine hb pb sv k ∨ False)) (hcase : (r = false ∧ Rep Hii.F w5 w.heap.size hb pb (.func (.func 13) #[] #[]) sv L n) ∨ (r = true ∧ ∃ L1, UpR LT (L.set i ⟨(j : Int), m.getD j 0, (j : Int) + 1⟩) i L1 ∧ L1.Perm (L.set i ⟨(j : Int), m.getD j 0, (j : Int) + 1⟩) ∧ Rep Hii.F w5 w.heap.size hb pb (.func (.func 13) #[] #[]) sv L1 n)) :
    Rel2 w w5 hb pb hb2 pb2 l m n j := by
  have hlow : low l m j = if m.getD j 0 < l.getD j 0 then m.getD j 0 else l.getD j 0 := by unfold low; rw [if_pos hjm]
  rcases hcase with ⟨rfl, R⟩ | ⟨rfl, L1, u, P, R⟩
  · have hlt := of_decide_eq_false (Eq.symm hr)
    exact rel2_same ⟨sv, L, sv2, L2, S.write K5 R S.one.heap (fun b hb => .inl hb), hP, hP2⟩ (by rw [hlow, if_neg hlt])
  · have hlt := of_decide_eq_true (Eq.symm hr)
    refine ⟨sv, L1, sv2, L2, S.write K5 R (lower_heap S.one.heap hx (by unfold Lt; simp only; omega) u) (fun b hb => .inl hb), ?_, hP2⟩
    rw [lows_step l m j n hj, hlow, if_pos hlt]
    refine P.trans (set_perm hP hx ?_)
    rw [itemsTo_get _ _ _ hj]
    unfold itOf
    rw [lows_get _ _ _ _ _ hj, if_pos (by omega)]

theorem pop_at {base hb pb : Nat} {lv sv : Value} {L0 : List (It Int Int)} {c : Int} {w : World} (L : LessOk Try.prog (Value.int .i64) LT lv (fun _ => True) (fun _ => False) base) (R : Rep Hii.F w base hb pb lv sv L0 c) {kx px cx : Int} (hx : L0[0]? = some ⟨kx, px, cx⟩) (hn : L0.length ≤ 1048576) :
    Calls Try.prog 12 #[.pointer (some ⟨hb, 0, none⟩)] w fun e w' => e = .returned (.tuple #[.int .i64 kx, .int .i64 px, .bool true]) ∧ ∃ sv' L1, DropR LT L0 0 L1 ∧ Rep Hii.F w' base hb pb lv sv' L1 c ∧ True ∧ Kp w w' (fun k => Mine hb pb sv k ∨ False) ∧ sv'.ownBlock = sv.ownBlock :=
  Hii.pop_cons L R trivial hx hn

set_option maxHeartbeats 4000000 in
set_option maxRecDepth 100000 in
theorem lowers_calls (A B : Option Addr) (cap capB : Nat) (l m : List Int) (w : World) (hr : Kd.C (Kd.int .i64) w A l.length l) (hr2 : Kd.C (Kd.int .i64) w B m.length m) :
    Calls Try.prog 4 #[.slice A l.length cap, .slice B m.length capB] w fun e w' => e = .returned (.bool true) ∧ Kp w w' (fun _ => False) := by
  have hlen : l.length ≤ 9223372036854775807 := hr.2.1
  have hlen2 : m.length ≤ 9223372036854775807 := hr2.2.1
  have HR := Aside0.mk hr
  have HRB := Aside0.mk hr2
  clear hr hr2
  have HL := Aside0.mk (ok13 w.heap.size)
  obtain ⟨n, hn⟩ : ∃ n : Nat, n = min l.length 400 := ⟨_, rfl⟩
  have hn4 : n ≤ 400 := by omega
  have hnl : n ≤ l.length := by omega
  have hmin : (if (400 : Int) < (l.length : Int) then (400 : Int) else (l.length : Int)) = (n : Int) := by split <;> omega
  clear hn
  go_enter Try.func4, Try.ntmps4
  go_wp2_with fail
  refine (Hii.new_calls 13 #[] w).mono ?_
  rintro e w1 ⟨rfl, R1, K1⟩
  go_wp2_with fail
  refine (Hii.new_calls 13 #[] w1).mono ?_
  rintro e w3 ⟨rfl, R3, K3⟩
  have S1 := Aside0.mk (st2_new R1 K1 R3 K3)
  clear R1 K1 R3 K3
  generalize w1.heap.size = s at *
  go_wp2_with fail
  refine (awake_calls w3).mono ?_
  rintro e w2 ⟨rfl, K2⟩
  have S2 := Aside0.mk (S1.out.kept K2)
  clear K2 S1
  go_wp2_with fail
  go_loopw [9, 10] (fun kv _ wr => ∃ k : Nat, k ≤ n ∧ kv = .int .i64 k ∧ Aside0 (Rel1 w wr (w.heap.size + 1) w.heap.size (s + 1) s l m n k)) (fun kv _ _ => n - (intOf kv).toNat)
  case atStart => exact ⟨0, by omega, rfl, ⟨_, _, _, _, S2.out, List.Perm.refl _, List.Perm.refl _⟩⟩
  case round =>
    clear S2
    obtain ⟨k, hk, rfl, HS⟩ := hrel
    by_cases hlt : k < n
    · obtain ⟨sv, L, sv2, L2, S, hP, hP2⟩ := HS.out
      obtain ⟨ad, rfl, hc⟩ := row_at HR.out S.one.kept k (by omega)
      have HS1 := Aside0.mk S
      have HP := Aside0.mk hP
      have HP2 := Aside0.mk hP2
      have hcond : (k < m.length ∧ ∃ ad2, B = some ad2 ∧ wr.cell? (ad2.add k) = some (.int .i64 (m.getD k 0))) ∨ ¬ k < m.length := by
        by_cases h : k < m.length
        · exact .inl ⟨h, row_at HRB.out S.one.kept k h⟩
        · exact .inr h
      clear S hP hP2 HS
      have hlo : low l m k = if k < m.length then (if m.getD k 0 < l.getD k 0 then m.getD k 0 else l.getD k 0) else l.getD k 0 := rfl
      generalize hx : l.getD k 0 = x at *
      generalize hy : m.getD k 0 = y at *
      have HXX := Aside0.mk hx
      have HLO := Aside0.mk hlo
      clear hx hy hlo
      have hln : L.length = k := by rw [HP.out.length_eq, itemsTo_len]
      have hln2 : L2.length = k := by rw [HP2.out.length_eq, itemsTo_len]
      have HLN := Aside0.mk hln
      have HLN2 := Aside0.mk hln2
      clear hln hln2
      obtain ⟨lo, hlo2⟩ : ∃ lo, lo = low l m k := ⟨_, rfl⟩
      have HLO2 := Aside0.mk hlo2
      clear hlo2
      have fin : ∀ w5, Aside0 (∃ sv5 L5, UpR LT (L ++ [⟨(k : Int), x, (k : Int) + 1⟩]) L.length L5 ∧ Rep Hii.F w5 w.heap.size (w.heap.size + 1) w.heap.size (.func (.func 13) #[] #[]) sv5 L5 ((k : Int) + 1) ∧ L5.Perm (L ++ [⟨(k : Int), x, (k : Int) + 1⟩]) ∧ True ∧ Kp wr w5 (fun k => Mine (w.heap.size + 1) w.heap.size sv k ∨ False) ∧ (∀ b, sv5.ownBlock = some b → sv.ownBlock = some b ∨ wr.heap.size ≤ b)) →
          Aside0 (∃ sv5 L5, St2 w w5 (w.heap.size + 1) w.heap.size (.func (.func 13) #[] #[]) sv5 L5 ((k + 1 : Nat) : Int) (s + 1) s sv2 L2 k ∧ L5.Perm (itemsTo l (k + 1))) := fun w5 h => ⟨by
        obtain ⟨sv5, L5, u5, R5, P5, _, K5, F5⟩ := h.out
        have hit : itOf l k = ⟨(k : Int), x, (k : Int) + 1⟩ := by unfold itOf; rw [HXX.out]
        exact ⟨sv5, L5, by rw [show ((k + 1 : Nat) : Int) = (k : Int) + 1 by omega]; exact HS1.out.write K5 R5 (push_heap HS1.out.one.heap u5) F5, by rw [itemsTo_succ, hit]; exact P5.trans (HP.out.append_right _)⟩⟩
      have FINA := Aside0.mk fin
      clear fin
      have hq : ∃ z : Int, z = lo ∧ (k < m.length → z = (if y < x then y else x)) ∧ (¬ k < m.length → z = x) := ⟨lo, rfl, fun h => by rw [HLO2.out, HLO.out, if_pos h], fun h => by rw [HLO2.out, HLO.out, if_neg h]⟩
      obtain ⟨z, hz, hz1, hz2⟩ := hq
      have HZ := Aside0.mk hz
      clear hz
      rcases hcond with ⟨hkm, ad2, rfl, hc2⟩ | hkm
      · have hz3 := (hz1 hkm).symm
        clear hz1 hz2
        go_wp2_with fail
        refine (Hii.push_calls HL.out _ _ sv L k _ (k : Int) x (by rw [HLN.out]; omega) (by omega) (by omega) (not_key HP.out) HS1.out.one.rep trivial).mono ?_
        rintro e w5 ⟨rfl, hg⟩
        have HG := FINA.out w5 ⟨hg⟩
        clear hg FINA
        obtain ⟨sv5, L5, S5, P5⟩ := HG.out
        have HS5 := Aside0.mk S5
        have HP5 := Aside0.mk P5
        clear S5 P5
        go_wp2_with fail
        refine (Hii.push_calls HL.out _ _ sv2 L2 k _ (k : Int) z (by rw [HLN2.out]; omega) (by omega) (by omega) (not_key HP2.out) HS5.out.two.rep trivial).mono ?_
        rintro e w6 ⟨rfl, sv6, L6, u6, R6, P6, _, K6, F6⟩
        have hit : itOf (lows l m 0 n) k = ⟨(k : Int), z, (k : Int) + 1⟩ := by unfold itOf; rw [lows_get _ _ _ _ _ hlt, if_neg (by omega), HZ.out, HLO2.out]
        have FIN : Aside0 (Rel1 w w6 (w.heap.size + 1) w.heap.size (s + 1) s l m n (k + 1)) :=
          ⟨sv5, L5, sv6, L6, (HS5.out.symm.write (c' := ((k + 1 : Nat) : Int)) K6 (by rw [show ((k + 1 : Nat) : Int) = (k : Int) + 1 by omega]; exact R6) (push_heap HS5.out.two.heap u6) F6).symm, HP5.out, by rw [itemsTo_succ, hit]; exact P6.trans (HP2.out.append_right _)⟩
        clear u6 R6 P6 K6 F6 hit HS5 HP5 HG HS1 HP HP2 HXX HLO HLO2 HZ HLN HLN2
        go_wp2
        go_roundw
        case measure => simp [intOf]; omega
        case rel => exact ⟨k + 1, by omega, by go_num, FIN⟩
      · obtain rfl : z = x := hz2 hkm
        clear hz1 hz2
        go_wp2_with fail
        refine (Hii.push_calls HL.out _ _ sv L k _ (k : Int) z (by rw [HLN.out]; omega) (by omega) (by omega) (not_key HP.out) HS1.out.one.rep trivial).mono ?_
        rintro e w5 ⟨rfl, hg⟩
        have HG := FINA.out w5 ⟨hg⟩
        clear hg FINA
        obtain ⟨sv5, L5, S5, P5⟩ := HG.out
        have HS5 := Aside0.mk S5
        have HP5 := Aside0.mk P5
        clear S5 P5
        go_wp2_with fail
        refine (Hii.push_calls HL.out _ _ sv2 L2 k _ (k : Int) z (by rw [HLN2.out]; omega) (by omega) (by omega) (not_key HP2.out) HS5.out.two.rep trivial).mono ?_
        rintro e w6 ⟨rfl, sv6, L6, u6, R6, P6, _, K6, F6⟩
        have hit : itOf (lows l m 0 n) k = ⟨(k : Int), z, (k : Int) + 1⟩ := by unfold itOf; rw [lows_get _ _ _ _ _ hlt, if_neg (by omega), HZ.out, HLO2.out]
        have FIN : Aside0 (Rel1 w w6 (w.heap.size + 1) w.heap.size (s + 1) s l m n (k + 1)) :=
          ⟨sv5, L5, sv6, L6, (HS5.out.symm.write (c' := ((k + 1 : Nat) : Int)) K6 (by rw [show ((k + 1 : Nat) : Int) = (k : Int) + 1 by omega]; exact R6) (push_heap HS5.out.two.heap u6) F6).symm, HP5.out, by rw [itemsTo_succ, hit]; exact P6.trans (HP2.out.append_right _)⟩
        clear u6 R6 P6 K6 F6 hit HS5 HP5 HG HS1 HP HP2 HXX HLO HLO2 HZ HLN HLN2
        go_wp2
        go_roundw
        case measure => simp [intOf]; omega
        case rel => exact ⟨k + 1, by omega, by go_num, FIN⟩
    · obtain rfl : k = n := by omega
      have HB : Aside0 (Rel2 w wr (w.heap.size + 1) w.heap.size (s + 1) s l m k k) := ⟨rel12 HS.out⟩
      clear HS
      go_wp2_with fail
      go_loopw [11] (fun kv wr => ∃ q : Nat, q ≤ k ∧ kv = .int .i64 ((q : Int) - 1) ∧ Aside0 (Rel2 w wr (w.heap.size + 1) w.heap.size (s + 1) s l m k q)) (fun kv _ => (intOf kv + 1).toNat)
      case atStart => exact ⟨k, by omega, rfl, HB⟩
      case round =>
        clear HB
        obtain ⟨q, hq, rfl, HS⟩ := hrel
        by_cases hq0 : 0 < q
        · obtain ⟨j, rfl⟩ : ∃ j, q = j + 1 := ⟨q - 1, by omega⟩
          have ej : ((j + 1 : Nat) : Int) - 1 = (j : Int) := by omega
          rw [ej]
          clear ej
          by_cases hjm : j < m.length
          · obtain ⟨sv, L, sv2, L2, S, hP, hP2⟩ := HS.out
            obtain ⟨ad, hA, hc⟩ := row_at HR.out S.one.kept j (by omega)
            obtain ⟨ad2, hB, hc2⟩ := row_at HRB.out S.one.kept j hjm
            have hmem : (⟨(j : Int), l.getD j 0, (j : Int) + 1⟩ : It Int Int) ∈ L := hP.mem_iff.2 (by
              have h := itemsTo_get (lows l m (j + 1) k) k j (by omega)
              have e : itOf (lows l m (j + 1) k) j = ⟨(j : Int), l.getD j 0, (j : Int) + 1⟩ := by unfold itOf; rw [lows_get _ _ _ _ _ (by omega), if_pos (by omega)]
              rw [e] at h
              exact List.mem_of_getElem? h)
            obtain ⟨i, hi⟩ := List.getElem?_of_mem hmem
            have HX := Aside0.mk hi
            have HS1 := Aside0.mk S
            have LOW := Aside0.mk (fun w5 r hr K5 hcase => rel2_low (w5 := w5) (r := r) S hP hP2 hi (by omega) hjm hr K5 hcase)
            have HLN : Aside0 (L.length = k) := ⟨by rw [hP.length_eq, itemsTo_len]⟩
            have hbA : (ad.add j).block < w.heap.size := by
              obtain ⟨ad', e, hc'⟩ := row_at HR.out (Kp.refl w (fun _ => False)) j (by omega)
              obtain rfl : ad = ad' := by rw [hA] at e; simpa using e
              exact World.block_lt_of_cell? w _ hc'
            have hbB : (ad2.add j).block < w.heap.size := by
              obtain ⟨ad', e, hc'⟩ := row_at HRB.out (Kp.refl w (fun _ => False)) j hjm
              obtain rfl : ad2 = ad' := by rw [hB] at e; simpa using e
              exact World.block_lt_of_cell? w _ hc'
            have HN1 : Aside0 (¬ (Mine (w.heap.size + 1) w.heap.size sv (ad.add j).block ∨ False)) := ⟨fun h => h.elim (S.one.rep.low hbA) (fun h => h)⟩
            have HN2 : Aside0 (¬ (Mine (w.heap.size + 1) w.heap.size sv (ad2.add j).block ∨ False)) := ⟨fun h => h.elim (S.one.rep.low hbB) (fun h => h)⟩
            subst hA hB
            clear S hP hP2 hmem hi HS hbA hbB
            generalize hxl : l.getD j 0 = xl at *
            generalize hxm : m.getD j 0 = xm at *
            clear hxl hxm
            go_wp2_with fail
            have hjl : j < l.length := by omega
            have hjl2 : (j : Int) < (l.length : Int) := by omega
            rcases (show xm < xl ∨ ¬ xm < xl by omega) with hxx | hxx
            · have HD : Aside0 (decide (xm < xl) = true) := ⟨decide_eq_true hxx⟩
              go_region_held3 (fun w' => w'.cell? (ad.add j) = some (.int .i64 xl) ∧ w'.cell? (ad2.add j) = some (.int .i64 xm)) (first | exact ⟨hc, hc2⟩ | exact ⟨D1.out, D2.out⟩)
                (first | (go_at_call 14; refine (Hii.lower_in HL.out (HS1.out.one.rep.kept (Kp.drew (Kp.refl wr (fun _ => False))) (fun _ h => h.elim)) trivial HX.out xm (by rw [HLN.out]; omega)).mono ?_; rintro e w5 ⟨r, rfl, hr, _, K5, hcase⟩; obtain rfl : r = true := Eq.trans hr HD.out; have K6 := Kp.then_ (Kp.drew (Kp.refl wr (fun k => Mine (w.heap.size + 1) w.heap.size sv k ∨ False))) K5 (fun k h => .inl h); have HS5 := Aside0.mk (LOW.out w5 true hr K6 hcase); have D1 := Aside0.mk (cell_kp hc K6 HN1.out); have D2 := Aside0.mk (cell_kp hc2 K6 HN2.out); clear hr K5 K6 hcase))
              all_goals
                clear LOW HS1 HX HLN HN1 HN2 HD
                go_wp2
                go_roundw
                case measure => simp [intOf]
                case rel => exact ⟨j, by omega, by go_num, HS5⟩
            · have HD : Aside0 (decide (xm < xl) = false) := ⟨decide_eq_false hxx⟩
              go_region_held3 (fun w' => w'.cell? (ad.add j) = some (.int .i64 xl) ∧ w'.cell? (ad2.add j) = some (.int .i64 xm)) (first | exact ⟨hc, hc2⟩ | exact ⟨D1.out, D2.out⟩)
                (first | (go_at_call 14; refine (Hii.lower_in HL.out (HS1.out.one.rep.kept (Kp.drew (Kp.refl wr (fun _ => False))) (fun _ h => h.elim)) trivial HX.out xm (by rw [HLN.out]; omega)).mono ?_; rintro e w5 ⟨r, rfl, hr, _, K5, hcase⟩; obtain rfl : r = false := Eq.trans hr HD.out; have K6 := Kp.then_ (Kp.drew (Kp.refl wr (fun k => Mine (w.heap.size + 1) w.heap.size sv k ∨ False))) K5 (fun k h => .inl h); have HS5 := Aside0.mk (LOW.out w5 false hr K6 hcase); have D1 := Aside0.mk (cell_kp hc K6 HN1.out); have D2 := Aside0.mk (cell_kp hc2 K6 HN2.out); clear hr K5 K6 hcase))
              all_goals
                clear LOW HS1 HX HLN HN1 HN2 HD
                go_wp2
                go_roundw
                case measure => simp [intOf]
                case rel => exact ⟨j, by omega, by go_num, HS5⟩
          · have t0 : decide ((j : Int) < (m.length : Int)) = false := by simp; omega
            go_wp2_with fail
            go_quiet (fail)
            have HS2 : Aside0 (Rel2 w (wr.drewN nq) (w.heap.size + 1) w.heap.size (s + 1) s l m k j) := ⟨(rel2_same HS.out (by unfold low; rw [if_neg hjm])).kept (Kp.drewN (Kp.refl _ _) _)⟩
            clear HS
            go_wp2
            go_roundw
            case measure => simp [intOf]
            case rel => exact ⟨j, by omega, by go_num, HS2⟩
        · obtain rfl : q = 0 := by omega
          have HB : Aside0 (Rel3 w wr (w.heap.size + 1) w.heap.size (s + 1) s (lows l m 0 k) k 0) := ⟨rel23 HS.out⟩
          clear HS
          go_wp2_with fail
          go_loopw [12] (fun iv wr => ∃ i : Nat, i ≤ k + 1 ∧ iv = .int .i64 i ∧ Aside0 (Rel3 w wr (w.heap.size + 1) w.heap.size (s + 1) s (lows l m 0 k) k i)) (fun iv _ => k + 1 - (intOf iv).toNat)
          case atStart => exact ⟨0, by omega, rfl, HB⟩
          case round =>
            clear HB
            obtain ⟨i, hi, rfl, HS⟩ := hrel
            by_cases hik : i < k
            · have hik2 : i ≤ k := by omega
              obtain ⟨sv, L, sv2, L2, S, hP, hlen3, hA⟩ := HS.out
              obtain ⟨x, hx⟩ : ∃ x, L[0]? = some x := ⟨_, List.getElem?_eq_getElem (by omega)⟩
              obtain ⟨y, hy⟩ : ∃ y, L2[0]? = some y := ⟨_, List.getElem?_eq_getElem (by have := hP.length_eq; omega)⟩
              obtain rfl := same_first S.one.heap S.two.heap hP hA hx hy
              have HX := Aside0.mk hx
              have HY := Aside0.mk hy
              have HS1 := Aside0.mk S
              have HP := Aside0.mk hP
              have HN := Aside0.mk hlen3
              have HA := Aside0.mk hA
              clear S hP hlen3 hA hx hy HS
              obtain ⟨kx, px, cx⟩ := x
              go_wp2_with fail
              refine (pop_at HL.out HS1.out.one.rep HX.out (by have := HN.out; omega)).mono ?_
              rintro e w5 ⟨rfl, sv5, L5, D5, R5, _, K5, O5⟩
              have P5 := DropR.perm D5 HX.out
              have HS5 := Aside0.mk (HS1.out.write K5 R5 (D5.heap HX.out HS1.out.one.heap) (fun b hb => .inl (by rw [← O5]; exact hb)))
              have HP5 := Aside0.mk P5
              clear D5 R5 K5 O5 P5 HS1
              go_wp2_with fail
              refine (pop_at HL.out HS5.out.two.rep HY.out (by have := HN.out; have := HP.out.length_eq; omega)).mono ?_
              rintro e w6 ⟨rfl, sv6, L6, D6, R6, _, K6, O6⟩
              have P6 := DropR.perm D6 HY.out
              have S6 := (HS5.out.symm.write K6 R6 (D6.heap HY.out HS5.out.two.heap) (fun b hb => .inl (by rw [← O6]; exact hb))).symm
              have FIN : Aside0 (Rel3 w w6 (w.heap.size + 1) w.heap.size (s + 1) s (lows l m 0 k) k (i + 1)) :=
                ⟨sv5, L5, sv6, L6, S6, (List.perm_cons _).1 (HP5.out.trans (HP.out.trans P6.symm)), by have := HP5.out.length_eq; rw [List.length_cons] at this; have := HN.out; omega, fun z hz => HA.out z (HP5.out.mem_iff.1 (List.mem_cons_of_mem _ hz))⟩
              clear D6 R6 K6 O6 P6 S6 HS5 HP5 HP HN HA HX HY
              go_wp2
              refine ⟨⟨_, _, _, _, _, _, _, _, _, _, _, _, _, _, _, _, _, _, _, _, _, _, _, _, _, _, _, _, _, _, _, _, _, _, _, _, _, _, _, _, _, _, _, _, _, ⟨i + 1, by omega, by go_num, FIN⟩, rfl⟩, by simp [intOf]; omega⟩
            · by_cases hik2 : i = k
              · subst hik2
                obtain ⟨sv, L, sv2, L2, S, hP, hlen3, hA⟩ := HS.out
                have hL : L = [] := List.eq_nil_of_length_eq_zero (by omega)
                have hL2 : L2 = [] := List.eq_nil_of_length_eq_zero (by have := hP.length_eq; omega)
                have HS1 := Aside0.mk S
                have HE := Aside0.mk hL
                have HE2 := Aside0.mk hL2
                have FIN : Aside0 (Rel3 w wr (w.heap.size + 1) w.heap.size (s + 1) s (lows l m 0 i) i (i + 1)) := ⟨sv, L, sv2, L2, S, hP, by omega, hA⟩
                clear S hP hlen3 hA hL hL2 HS
                go_wp2_with fail
                refine (Hii.pop_nil HS1.out.one.rep HE.out).mono ?_
                rintro e w' ⟨rfl, rfl⟩
                go_wp2_with fail
                refine (Hii.pop_nil HS1.out.two.rep HE2.out).mono ?_
                rintro e w' ⟨rfl, rfl⟩
                go_wp2
                refine ⟨⟨_, _, _, _, _, _, _, _, _, _, _, _, _, _, _, _, _, _, _, _, _, _, _, _, _, _, _, _, _, _, _, _, _, _, _, _, _, _, _, _, _, _, _, _, _, ⟨i + 1, by omega, by go_num, FIN⟩, rfl⟩, by simp [intOf]⟩
              · obtain rfl : i = k + 1 := by omega
                have ht : ¬ (k + 1 ≤ k) := by omega
                have K := Aside0.mk (show Kp w wr (fun _ => False) by obtain ⟨_, _, _, _, S, _⟩ := HS.out; exact S.one.kept)
                clear HS
                go_wp2
                go_ret
                exact ⟨rfl, K.out⟩
theorem lowers (A : Option Addr) (cap : Nat) (l : List Int) (B : Option Addr) (capB : Nat) (m : List Int) (w : World) (hr : Kd.C (Kd.int .i64) w A l.length l) (_ : l.length ≤ cap) (_ : ∀ n ∈ l, (Lit.int .i64 n).wf = true) (_ : l.length * 8 ≤ 140737488351232)
    (hr2 : Kd.C (Kd.int .i64) w B m.length m) (_ : m.length ≤ capB) (_ : ∀ n ∈ m, (Lit.int .i64 n).wf = true) (_ : m.length * 8 ≤ 140737488351232) :
    Calls Try.prog 4 #[.slice A l.length cap, .slice B m.length capB] w fun e w' => e = .returned (.bool true) ∧ Below w.heap.size w w' :=
  (lowers_calls A B cap capB l m w hr hr2).mono fun _ _ h => ⟨h.1, h.2.to_below⟩
end Go.Proofs.Ytiblnccbeefdkaa.Ll
