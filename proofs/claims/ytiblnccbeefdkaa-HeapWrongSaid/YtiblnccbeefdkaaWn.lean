/- This text walks the law HeapWrong: true whatever the calls and whatever the order says. -/
import Derived.Test.YtiblnccbeefdkaaWm
import Derived.Test.YtiblnccbeefdkaaLs
import Derived.Test.YtiblnccbeefdkaaOp
import Derived.Deep.DeepCutAuto
import Derived.Deep.CutBlock
namespace Go.Proofs.Ytiblnccbeefdkaa.Wr
open Go.RowKit Go.Proofs.YtiblnccbeefdkaaW.PrintWords Go.Proofs.Ytiblnccbeefdkaa.Mp Go.Proofs.Ytiblnccbeefdkaa.Hp Go.Proofs.Ytiblnccbeefdkaa.Aw
set_option linter.unusedVariables false
theorem add_field (a : Addr) (n m : Nat) (hm : 0 < m) : a.add (n + m) = ⟨(a.add n).block, (a.add n).off + m, none⟩ := by
  unfold Addr.add
  by_cases h : n = 0
  · subst h
    simp [show m ≠ 0 by omega]
  · simp [h, Nat.add_assoc]
def LV (w : World) : Value := .func (.func 15) #[] #[.pointer (some ⟨w.heap.size + 1, 0, none⟩), .pointer (some ⟨w.heap.size, 0, none⟩)]
theorem new15 (w : World) (As : Option Addr) (ls cs : Nat) (Bf : Nat → Bool) (hs : ∀ i, i < ls → ∃ a, As = some a ∧ w.cell? (a.add i) = some (.bool (Bf i))) (hl : ls ≤ 9223372036854775807) :
    Calls Try.prog 8 #[.func (.func 15) #[] #[.pointer (some ⟨w.heap.size + 1, 0, none⟩), .pointer (some ⟨w.heap.size, 0, none⟩)]] ((w.alloc (.cells #[.slice As ls cs] 32)).alloc (.cells #[.int .i64 0] 3)) fun e w' =>
      e = .returned (.pointer (some ⟨w.heap.size + 3, 0, none⟩)) ∧ Rep Hii.F w' (w.heap.size + 2) (w.heap.size + 3) (w.heap.size + 2) (LV w) (.slice none 0 0) [] 0 ∧ JW (w.heap.size + 1) w.heap.size As ls cs Bf 80000 w' ∧ Kp w w' (fun _ => False) := by
  have hz : ((w.alloc (.cells #[.slice As ls cs] 32)).alloc (.cells #[.int .i64 0] 3)).heap.size = w.heap.size + 2 := by simp
  have hk : Kp w ((w.alloc (.cells #[.slice As ls cs] 32)).alloc (.cells #[.int .i64 0] 3)) (fun _ => False) := ((Kp.refl _ _).alloc _).alloc _
  have hj : JW (w.heap.size + 1) w.heap.size As ls cs Bf 80000 ((w.alloc (.cells #[.slice As ls cs] 32)).alloc (.cells #[.int .i64 0] 3)) := by
    refine ⟨⟨0, ?_, by omega⟩, ?_, fun i hi => ?_, by omega, hl⟩
    · have := heap_alloc_new (w.alloc (.cells #[.slice As ls cs] 32)) (.cells #[.int .i64 0] 3)
      rw [show (w.alloc (.cells #[.slice As ls cs] 32)).heap.size = w.heap.size + 1 by simp] at this
      exact this
    · have h1 := heap_alloc_new w (.cells #[.slice As ls cs] 32)
      exact ((MapKept.heap_alloc _ _).2 _ (by simp)).trans h1
    · obtain ⟨a, ha, hc⟩ := hs i hi
      refine ⟨a, ha, ?_, cell_kp hc hk (fun h => h)⟩
      have := World.block_lt_of_cell? w _ hc
      omega
  generalize (w.alloc (.cells #[.slice As ls cs] 32)).alloc (.cells #[.int .i64 0] 3) = W at *
  refine (Hii.new_calls 15 _ W).mono ?_
  rintro e w' ⟨rfl, R, K⟩
  rw [hz] at R ⊢
  exact ⟨rfl, R, hj.kept (base := w.heap.size + 2) (by omega) (by omega) (fun i hi => K.keep i (by omega) (fun h => h)), hk.then_ K (fun _ h => h.elim)⟩
def SS (w : World) (As : Option Addr) (ls cs : Nat) (Bf : Nat → Bool) (bi bg : Nat) (wr : World) (n : Nat) : Prop :=
  ∃ sv L c I G V, Wm w As ls cs Bf (LV w) (w.heap.size + 3) (w.heap.size + 2) bi bg wr sv L c I G V (200 * (400 - n)) ∧ Pq L I G ∧ 0 ≤ c ∧ c ≤ n ∧ ∀ i, (G i).length ≤ n
theorem start {w w4 : World} {As : Option Addr} {ls cs : Nat} {Bf : Nat → Bool} (R : Rep Hii.F w4 (w.heap.size + 2) (w.heap.size + 3) (w.heap.size + 2) (LV w) (.slice none 0 0) [] 0) (J : JW (w.heap.size + 1) w.heap.size As ls cs Bf 80000 w4) (K : Kp w w4 (fun _ => False)) (a b : Array Value)
    (ha : a = ((List.range 16).map (fun i => Value.bool false)).toArray) (hb : b = ((List.range 16).map (fun _ => Value.slice none 0 0)).toArray) :
    SS w As ls cs Bf w4.heap.size (w4.heap.size + 1) ((w4.alloc (.cells a 33)).alloc (.cells b 34)) 0 := by
  subst ha hb
  have hsz : w.heap.size + 3 < w4.heap.size := blk_lt R.head
  have hk : Kp w4 ((w4.alloc (.cells ((List.range 16).map (fun i => Value.bool false)).toArray 33)).alloc (.cells ((List.range 16).map (fun _ => Value.slice none 0 0)).toArray 34)) (fun _ => False) := ((Kp.refl _ _).alloc _).alloc _
  refine ⟨.slice none 0 0, [], 0, fun _ => false, fun _ => [], fun _ => .slice none 0 0, ?_, ⟨fun x hx => (by cases hx), fun k _ h => (by cases h)⟩, by omega, by omega, fun _ => by simp⟩
  have hD : ∀ i q, D (w.heap.size + 3) (w.heap.size + 2) (.slice none 0 0) w4.heap.size (w4.heap.size + 1) (fun _ => .slice none 0 0) i = some q → (i = 0 ∧ q = w.heap.size + 3) ∨ (i = 1 ∧ q = w.heap.size + 2) ∨ (i = 3 ∧ q = w4.heap.size) ∨ (i = 4 ∧ q = w4.heap.size + 1) := by
    intro i q hq
    match i with
    | 0 => cases hq; exact .inl ⟨rfl, rfl⟩
    | 1 => cases hq; exact .inr (.inl ⟨rfl, rfl⟩)
    | 2 => cases hq
    | 3 => cases hq; exact .inr (.inr (.inl ⟨rfl, rfl⟩))
    | 4 => cases hq; exact .inr (.inr (.inr ⟨rfl, rfl⟩))
    | n + 5 => cases hq
  refine ⟨R.kept hk (fun _ h => h.elim), J.kept (base := w.heap.size + 2) (by omega) (by omega) (fun i hi => hk.keep i (by omega) (fun h => h)), ?_, ?_, fun i => ⟨rfl, .inl ⟨rfl, rfl⟩⟩, ?_, ?_, K.then_ hk (fun _ h => h.elim)⟩
  · exact ((MapKept.heap_alloc _ _).2 _ (by simp)).trans (heap_alloc_new w4 _)
  · have := heap_alloc_new (w4.alloc (.cells ((List.range 16).map (fun i => Value.bool false)).toArray 33)) (.cells ((List.range 16).map (fun _ => Value.slice none 0 0)).toArray 34)
    rw [show (w4.alloc (.cells ((List.range 16).map (fun i => Value.bool false)).toArray 33)).heap.size = w4.heap.size + 1 by simp] at this
    exact this
  · intro i j q hi hj
    rcases hD i q hi with ⟨a, b⟩ | ⟨a, b⟩ | ⟨a, b⟩ | ⟨a, b⟩ <;> rcases hD j q hj with ⟨c, d⟩ | ⟨c, d⟩ | ⟨c, d⟩ | ⟨c, d⟩ <;> omega
  · intro i q hi
    have h2 : ((w4.alloc (.cells ((List.range 16).map (fun i => Value.bool false)).toArray 33)).alloc (.cells ((List.range 16).map (fun _ => Value.slice none 0 0)).toArray 34)).heap.size = w4.heap.size + 2 := by simp
    rw [h2]
    rcases hD i q hi with ⟨a, b⟩ | ⟨a, b⟩ | ⟨a, b⟩ | ⟨a, b⟩ <;> omega
theorem and15 (x : Int) : ∃ m : Nat, m < 16 ∧ bits BinOp.and IntKind.i64 x 15 = (m : Int) := by
  have h : ((BitVec.ofInt 64 x) &&& (BitVec.ofInt 64 15)).toNat ≤ 15 := by
    rw [BitVec.toNat_and]
    exact Nat.le_trans Nat.and_le_right (by decide)
  refine ⟨((BitVec.ofInt 64 x) &&& (BitVec.ofInt 64 15)).toNat, by omega, ?_⟩
  show IntKind.i64.wrap (((BitVec.ofInt 64 x) &&& (BitVec.ofInt 64 15)).toNat : Int) = _
  rw [IntKind.wrap_i64]
  omega
theorem idx16 (f : Nat → Value) (k : Nat) (hk : k < 16) (W : World) : (Instr.index 33 (.agg ((List.range 16).map f).toArray) (.int .i64 k)).run Try.prog W = .ok (f k) W := by
  have h : k = 0 ∨ k = 1 ∨ k = 2 ∨ k = 3 ∨ k = 4 ∨ k = 5 ∨ k = 6 ∨ k = 7 ∨ k = 8 ∨ k = 9 ∨ k = 10 ∨ k = 11 ∨ k = 12 ∨ k = 13 ∨ k = 14 ∨ k = 15 := by omega
  rcases h with rfl | rfl | rfl | rfl | rfl | rfl | rfl | rfl | rfl | rfl | rfl | rfl | rfl | rfl | rfl | rfl <;> exact (show _ = _ from by kernel_rfl)
section calls
variable {w : World} {As : Option Addr} {ls cs : Nat} {Bf : Nat → Bool} {bi bg : Nat} {W : World} {sv : Value} {L : List (It Int Int)} {c : Int} {I : Nat → Bool} {G : Nat → List Int} {V : Nat → Value} {n m : Nat}
/-- Behind a call that writes the heap. -/
def Then (w : World) (As : Option Addr) (ls cs : Nat) (Bf : Nat → Bool) (bi bg : Nat) (W : World) (sv : Value) (I : Nat → Bool) (G : Nat → List Int) (V : Nat → Value) (n : Nat) (I2 : Nat → Bool) (G2 : Nat → List Int) (w5 : World) : Prop :=
  ∃ sv2 L2 c2, Wm w As ls cs Bf (LV w) (w.heap.size + 3) (w.heap.size + 2) bi bg w5 sv2 L2 c2 I G V (200 * (400 - (n + 1))) ∧ Pq L2 I2 G2 ∧ 0 ≤ c2 ∧ c2 ≤ ((n + 1 : Nat) : Int) ∧ Kp W w5 (fun k => Mine (w.heap.size + 3) (w.heap.size + 2) sv k ∨ k = w.heap.size + 1) ∧
    ∀ q, sv2.ownBlock = some q → sv.ownBlock = some q ∨ W.heap.size ≤ q
theorem ord (w : World) (As : Option Addr) (ls cs : Nat) (Bf : Nat → Bool) : LessJ Try.prog (Value.int .i64) (fun _ _ _ => True) (LV w) (JW (w.heap.size + 1) w.heap.size As ls cs Bf) (fun k => k = w.heap.size + 1) (w.heap.size + 2) :=
  orderJ (w.heap.size + 1) w.heap.size As ls cs Bf (w.heap.size + 2) (by omega) (by omega)
variable (hM : Wm w As ls cs Bf (LV w) (w.heap.size + 3) (w.heap.size + 2) bi bg W sv L c I G V (200 * (400 - n))) (hP : Pq L I G) (hc0 : 0 ≤ c) (hcn : c ≤ n) (hn : n < 400) (hm : m < 16)
include hM hP hc0 hcn hn hm
theorem c_push (hI : I m = false) (p : Int) : Calls Try.prog 11 #[.pointer (some ⟨w.heap.size + 3, 0, none⟩), .int .i64 m, .int .i64 p] W fun e w5 => e = .returned (.bool true) ∧ Then w As ls cs Bf bi bg W sv I G V n (upd I m true) (upd G m [p]) w5 := by
  have hl := hP.small hM.rep.nodup
  refine (Hjii.push_calls (ord w As ls cs Bf) _ _ sv L c W m p (by omega) hc0 (by omega) (fun h => by rw [hP.iff hm] at h; rw [hI] at h; cases h) hM.rep (200 * (400 - (n + 1))) (hM.le (by omega)).j).mono ?_
  rintro e w5 ⟨rfl, sv', L1, _, R, hp, J, K, F⟩
  exact ⟨rfl, sv', L1, c + 1, hM.heap K R J F, hP.push hm hI p (c + 1) hp, by omega, by omega, K, F⟩
omit hc0 hcn hn in
theorem c_push_in (hI : I m = true) (p : Int) : Calls Try.prog 11 #[.pointer (some ⟨w.heap.size + 3, 0, none⟩), .int .i64 m, .int .i64 p] W fun e w5 => e = .returned (.bool false) ∧ W = w5 := by
  obtain ⟨x, hx, hk⟩ := List.mem_map.1 (hP.full m hm hI)
  obtain ⟨i, hi⟩ := List.getElem?_of_mem hx
  have h := Hii.push_in hM.rep hi p
  rw [hk] at h
  exact h
theorem c_lower_in (hI : I m = true) (p : Int) : Calls Try.prog 14 #[.pointer (some ⟨w.heap.size + 3, 0, none⟩), .int .i64 m, .int .i64 p] W fun e w5 => ∃ r, e = .returned (.bool r) ∧ Then w As ls cs Bf bi bg W sv I G V n I (if r = true then upd G m (G m ++ [p]) else G) w5 := by
  have hl := hP.small hM.rep.nodup
  obtain ⟨x, hx, hk⟩ := List.mem_map.1 (hP.full m hm hI)
  obtain ⟨i, hi⟩ := List.getElem?_of_mem hx
  have hil := (List.getElem?_eq_some_iff.1 hi).1
  have h := Hjii.lower_in (ord w As ls cs Bf) hM.rep (200 * (400 - (n + 1))) hi p (hM.le (by omega)).j (by omega)
  rw [hk] at h
  refine h.mono ?_
  rintro e w5 ⟨r, rfl, _, J, K, hh⟩
  rcases hh with ⟨rfl, R⟩ | ⟨rfl, L1, _, hp, R⟩
  · exact ⟨false, rfl, sv, L, c, hM.heap K R J (fun q hq => .inl hq), hP, hc0, by omega, K, fun q hq => .inl hq⟩
  · refine ⟨true, rfl, sv, L1, c, hM.heap K R J (fun q hq => .inl hq), ?_, hc0, by omega, K, fun q hq => .inl hq⟩
    rw [if_pos rfl]
    exact hP.lower hi hk p (by rw [hk]; exact hp)
omit hc0 hcn hn in
theorem c_lower_out (hI : I m = false) (p : Int) : Calls Try.prog 14 #[.pointer (some ⟨w.heap.size + 3, 0, none⟩), .int .i64 m, .int .i64 p] W fun e w5 => e = .returned (.bool false) ∧ Kp W w5 (fun _ => False) :=
  Hii.lower_absent hM.rep (fun h => by rw [hP.iff hm] at h; rw [hI] at h; cases h) p
theorem c_drop_in (hI : I m = true) : Calls Try.prog 16 #[.pointer (some ⟨w.heap.size + 3, 0, none⟩), .int .i64 m] W fun e w5 => e = .returned (.bool true) ∧ Then w As ls cs Bf bi bg W sv I G V n (upd I m false) G w5 := by
  have hl := hP.small hM.rep.nodup
  obtain ⟨x, hx, hk⟩ := List.mem_map.1 (hP.full m hm hI)
  obtain ⟨i, hi⟩ := List.getElem?_of_mem hx
  have hil := (List.getElem?_eq_some_iff.1 hi).1
  have h := Hjii.drop_in (ord w As ls cs Bf) hM.rep (200 * (400 - (n + 1))) hi (hM.le (by omega)).j (by omega)
  rw [hk] at h
  refine h.mono ?_
  rintro e w5 ⟨rfl, sv', L1, DD, R, J, K, O⟩
  exact ⟨rfl, sv', L1, c, hM.heap K R J (fun q hq => .inl (by rw [← O]; exact hq)), hP.drop hM.rep.nodup hk (DD.perm hi), hc0, by omega, K, fun q hq => .inl (by rw [← O]; exact hq)⟩
omit hc0 hcn hn in
theorem c_drop_out (hI : I m = false) : Calls Try.prog 16 #[.pointer (some ⟨w.heap.size + 3, 0, none⟩), .int .i64 m] W fun e w5 => e = .returned (.bool false) ∧ W = w5 :=
  Hii.drop_absent hM.rep (fun h => by rw [hP.iff hm] at h; rw [hI] at h; cases h)
omit hm in
theorem c_pop {x : It Int Int} (hx : L[0]? = some x) : Calls Try.prog 12 #[.pointer (some ⟨w.heap.size + 3, 0, none⟩)] W fun e w5 => ∃ k : Nat, k < 16 ∧ I k = true ∧ x.rank ∈ G k ∧ e = .returned (.tuple #[.int .i64 (k : Int), .int .i64 x.rank, .bool true]) ∧ Then w As ls cs Bf bi bg W sv I G V n (upd I k false) G w5 := by
  have hl := hP.small hM.rep.nodup
  obtain ⟨k, hk, hxk, hI, hr⟩ := hP.key x (List.mem_of_getElem? hx)
  have h := Hjii.pop_cons (ord w As ls cs Bf) hM.rep (200 * (400 - (n + 1))) hx (hM.le (by omega)).j (by omega)
  rw [hxk] at h
  refine h.mono ?_
  rintro e w5 ⟨rfl, sv', L1, DD, R, J, K, O⟩
  exact ⟨k, hk, hI, hr, rfl, sv', L1, c, hM.heap K R J (fun q hq => .inl (by rw [← O]; exact hq)), hP.drop hM.rep.nodup hxk (DD.perm hx), hc0, by omega, K, fun q hq => .inl (by rw [← O]; exact hq)⟩
end calls
section ends
variable {w : World} {As : Option Addr} {ls cs : Nat} {Bf : Nat → Bool} {lv : Value} {hb pb bi bg : Nat} {wr w5 : World} {sv : Value} {L : List (It Int Int)} {c : Int} {I I2 : Nat → Bool} {G G2 : Nat → List Int} {V V2 : Nat → Value} {b k n : Nat}
theorem app_end {w3 : World} {v' : Value} {p : Int} {o : Obj} (h : Wm w As ls cs Bf lv hb pb bi bg wr sv L c I G V b) (hk : k < 16) (hown : w3.ownsRow (w.heap.size + 2) 3 1 v' ((G k).length + 1) ((G k).map (Value.int .i64) ++ [.int .i64 p]))
    (hgrow : ((wr.alloc o).drew).grownBy w3 (V k).ownBlock) (hloc : v'.ownBlock = (V k).ownBlock ∨ v'.ownBlock = some ((wr.alloc o).drew).heap.size) :
    Wm w As ls cs Bf lv hb pb bi bg (w3.setCell ⟨bg, k, none⟩ v') sv L c I (upd G k (G k ++ [p])) (upd V k v') b := by
  have h2 := h.stay (w2 := (wr.alloc o).drew) (((Kp.refl wr _).alloc o).drew)
  have kB : Kp ((wr.alloc o).drew) w3 (fun q => (V k).ownBlock = some q) := ⟨hgrow.size, fun k hk hn => hgrow.block k hk (fun e => hn e.symm), hgrow.os, hgrow.tape, hgrow.output⟩
  refine h2.append hk kB ?_ (fun q hq => ?_)
  · simpa using hown
  · rcases hloc with e | e
    · exact .inl (by rw [← e]; exact hq)
    · rw [e] at hq
      cases hq
      exact .inr h2.fresh
theorem ss_mk (h : Wm w As ls cs Bf (LV w) (w.heap.size + 3) (w.heap.size + 2) bi bg wr sv L c I G V (200 * (400 - n))) (hP : Pq L I G) (h0 : 0 ≤ c) (h1 : c ≤ n) (hG : ∀ i, (G i).length ≤ n) : SS w As ls cs Bf bi bg wr n := ⟨sv, L, c, I, G, V, h, hP, h0, h1, hG⟩
theorem upd_len {p : Int} (hG : ∀ i, (G i).length ≤ n) (i : Nat) : (upd G k [p] i).length ≤ n + 1 := by
  by_cases e : i = k
  · subst e; rw [upd_self]; simp
  · rw [upd_ne _ _ e]; have := hG i; omega
theorem upd_len2 {p : Int} (hG : ∀ i, (G i).length ≤ n) (i : Nat) : (upd G k (G k ++ [p]) i).length ≤ n + 1 := by
  by_cases e : i = k
  · subst e; rw [upd_self]; have := hG i; simp; omega
  · rw [upd_ne _ _ e]; have := hG i; omega
theorem len_up (hG : ∀ i, (G i).length ≤ n) (i : Nat) : (G i).length ≤ n + 1 := by have := hG i; omega
theorem upd_same (hI : I k = false) : upd I k false = I := by
  funext i
  by_cases e : i = k
  · subst e; rw [upd_self, hI]
  · rw [upd_ne _ _ e]
theorem dr (w : World) : Kp w w.drew (fun _ => False) := (Kp.refl _ _).drew
theorem push_1 (h : Wm w As ls cs Bf lv hb pb bi bg wr sv L c I G V b) (hk : k < 16) (p : Int) :
    Wm w As ls cs Bf lv hb pb bi bg (((wr.setCell ⟨bi, k, none⟩ (.bool true)).alloc (.cells #[.int .i64 p] 3)).setCell ⟨bg, k, none⟩ (.slice (some ⟨wr.heap.size, 0, none⟩) 1 1)).drew sv L c (upd I k true) (upd G k [p]) (upd V k (.slice (some ⟨wr.heap.size, 0, none⟩) 1 1)) b := by
  have h1 := (h.setI hk true).add1 hk p
  rw [show (wr.setCell ⟨bi, k, none⟩ (.bool true)).heap.size = wr.heap.size by simp [World.setCell]] at h1
  exact h1.stay (dr _)
theorem push_2 (h : Wm w As ls cs Bf lv hb pb bi bg wr sv L c I G V b) (hk : k < 16) (p : Int) :
    Wm w As ls cs Bf lv hb pb bi bg (((wr.alloc (.cells #[.int .i64 p] 3)).setCell ⟨bi, k, none⟩ (.bool true)).setCell ⟨bg, k, none⟩ (.slice (some ⟨wr.heap.size, 0, none⟩) 1 1)).drew sv L c (upd I k true) (upd G k [p]) (upd V k (.slice (some ⟨wr.heap.size, 0, none⟩) 1 1)) b :=
  (h.add2 hk p true).stay (dr _)
theorem push_3 (h : Wm w As ls cs Bf lv hb pb bi bg wr sv L c I G V b) (hk : k < 16) (p : Int) :
    Wm w As ls cs Bf lv hb pb bi bg (((wr.alloc (.cells #[.int .i64 p] 3)).setCell ⟨bg, k, none⟩ (.slice (some ⟨wr.heap.size, 0, none⟩) 1 1)).setCell ⟨bi, k, none⟩ (.bool true)).drew sv L c (upd I k true) (upd G k [p]) (upd V k (.slice (some ⟨wr.heap.size, 0, none⟩) 1 1)) b :=
  ((h.add1 hk p).setI hk true).stay (dr _)
theorem gv_slice (h : Wm w As ls cs Bf lv hb pb bi bg wr sv L c I G V b) {x : Int} (hx : x ∈ G k) : ∃ g cap, V k = .slice (some ⟨g, 0, none⟩) (G k).length cap := by
  have hr := h.rows k
  have hp : 0 < (G k).length := List.length_pos_of_mem hx
  rcases hr.2 with ⟨_, h0⟩ | ⟨g, cap, _, hv, _⟩
  · omega
  · exact ⟨g, cap, hv⟩
/-- How many of the first j are in. -/
def cnt (I : Nat → Bool) (j : Nat) : Nat := ((List.range j).filter I).length
theorem cnt_succ (I : Nat → Bool) (j : Nat) : cnt I (j + 1) = cnt I j + (if I j = true then 1 else 0) := by
  unfold cnt
  rw [List.range_succ, List.filter_append, List.length_append]
  cases h : I j <;> simp [h]
theorem cnt_le (I : Nat → Bool) (j : Nat) : cnt I j ≤ j := by
  unfold cnt
  exact Nat.le_trans (List.length_filter_le _ _) (by simp)
theorem info3 : (Try.prog.info? 3).map (fun i => (i.zero, i.size, i.bytes)) = some (some (.int .i64 0), 1, 8) := by kernel_rfl
end ends
set_option maxHeartbeats 4000000 in
set_option maxRecDepth 100000 in
theorem wrong_calls (A : Option Addr) (len cap : Nat) (T : Nat → Int × Int × Int) (As : Option Addr) (ls cs : Nat) (Bf : Nat → Bool) (w : World) (hlen : len ≤ 9223372036854775807)
    (hT : ∀ i, i < len → ∃ a, A = some a ∧ w.cell? (a.add (i * 3)) = some (.int .i64 (T i).1) ∧ w.cell? (a.add (i * 3 + 1)) = some (.int .i64 (T i).2.1) ∧ w.cell? (a.add (i * 3 + 2)) = some (.int .i64 (T i).2.2))
    (hs : ∀ i, i < ls → ∃ a, As = some a ∧ w.cell? (a.add i) = some (.bool (Bf i))) (hl : ls ≤ 9223372036854775807) :
    Calls Try.prog 5 #[.slice A len cap, .slice As ls cs] w fun e w' => e = .returned (.bool true) ∧ Kp w w' (fun _ => False) := by
  have H8 := Aside0.mk (new15 w As ls cs Bf hs hl)
  have HL := Aside0.mk (orderJ (w.heap.size + 1) w.heap.size As ls cs Bf (w.heap.size + 2) (by omega) (by omega))
  have HT := Aside0.mk hT
  clear hs hT
  go_enter Try.func5, Try.ntmps5
  go_wp2_with fail
  refine H8.out.mono ?_
  rintro e w1 ⟨rfl, R1, J1, K1⟩
  have HX := Aside0.mk (And.intro R1 (And.intro J1 K1))
  clear R1 J1 K1 H8
  go_wp2_with fail
  refine (awake_calls w1).mono ?_
  rintro e w4 ⟨rfl, K2⟩
  have HX2 := Aside0.mk (start (HX.out.1.kept K2 (fun _ h => h.elim)) (HX.out.2.1.kept (base := w.heap.size + 2) (by omega) (by omega) (fun i hi => K2.keep i (by have := HX.out.1.size; omega) (fun h => h))) (HX.out.2.2.then_ K2 (fun _ h => h.elim)) _ _ rfl rfl)
  have HBI := Aside0.mk (show w.heap.size + 3 < w4.heap.size from by have := HX.out.1.size; have := blk_lt HX.out.1.head; have := K2.size; omega)
  clear HX K2
  go_wp2_with fail
  generalize hbi : w4.heap.size = bi at *
  have HS0 := HX2
  clear HX2
  go_loopg [9] 400 (fun g iv wr => ∃ n : Nat, n ≤ len ∧ n ≤ 400 ∧ g = 400 - n ∧ iv = .int .i64 n ∧ Aside0 (SS w As ls cs Bf bi (bi + 1) wr n))
  case atStart => exact ⟨0, by omega, by omega, rfl, rfl, ⟨HS0.out⟩⟩
  case round =>
    clear HS0
    obtain ⟨n, hn, hn4, hgn, rfl, HS⟩ := hrel
    by_cases hlt : n < len ∧ n < 400
    · obtain ⟨hlt, hlt4⟩ := hlt
      obtain ⟨sv, L, c, I, G, V, hM, hP, hc0, hcn, hG⟩ := HS.out
      obtain ⟨ad, rfl, t0, t1, t2⟩ := HT.out n hlt
      have t0 := cell_kp t0 hM.kept (fun h => h)
      have t1 := cell_kp t1 hM.kept (fun h => h)
      have t2 := cell_kp t2 hM.kept (fun h => h)
      rw [add_field _ _ 1 (by omega)] at t1
      rw [add_field _ _ 2 (by omega)] at t2
      generalize (T n).1 = kd at *
      generalize (T n).2.1 = kk at *
      generalize (T n).2.2 = pp at *
      obtain ⟨m, hm, hkm⟩ := and15 kk
      have hm0 : (0 : Int) ≤ (m : Int) := by omega
      have hm1 : (m : Int) < 16 := by omega
      obtain ⟨ob, hob⟩ : ∃ ob, wr.heap.size = ob := ⟨_, rfl⟩
      obtain ⟨W1, hW1⟩ : ∃ W1, wr.alloc (.cells #[.int .i64 kd, .int .i64 kk, .int .i64 pp] 36) = W1 := ⟨_, rfl⟩
      have hM1 := hM.stay (w2 := W1) (by rw [← hW1]; exact (Kp.refl _ _).alloc _)
      have hbx : W1.heap[ob]? = some (.cells #[.int .i64 kd, .int .i64 kk, .int .i64 pp] 36 (0, 0)) := by rw [← hW1, ← hob]; exact heap_alloc_new _ _
      have hfr : ∀ i, D (w.heap.size + 3) (w.heap.size + 2) sv bi (bi + 1) V i ≠ some ob := by rw [← hob]; exact hM.fresh
      have x0 : W1.cell? ⟨ob, 0, none⟩ = some (.int .i64 kd) := (blk_cell hbx 0).trans rfl
      have x1 : W1.cell? ⟨ob, 1, none⟩ = some (.int .i64 kk) := (blk_cell hbx 1).trans rfl
      have x2 : W1.cell? ⟨ob, 2, none⟩ = some (.int .i64 pp) := (blk_cell hbx 2).trans rfl
      have HM := Aside0.mk hM1
      have HP := Aside0.mk hP
      have HG := Aside0.mk hG
      have HBX := Aside0.mk hbx
      have HFR := Aside0.mk hfr
      have HOB := Aside0.mk (show w.heap.size + 2 ≤ ob ∧ ob ≠ bi ∧ ob ≠ bi + 1 from ⟨by have := hM.size; omega, fun e => hfr 3 (by rw [e]; rfl), fun e => hfr 4 (by rw [e]; rfl)⟩)
      clear hM hM1 hP hG HS hbx hfr
      go_upto_block 2 with fail
      clear x0 x1 hkm hob hW1
      go_cut [12, 13, 14] from 26 to 143 (fun _ _ _ wx => Aside0 (SS w As ls cs Bf bi (bi + 1) wx (n + 1)))
      case first =>
        have HSO : Aside0 (¬ (Mine (w.heap.size + 3) (w.heap.size + 2) sv ob ∨ ob = w.heap.size + 1)) := ⟨by
              rintro ((e | e | e) | e)
              · exact HFR.out 0 (by rw [e]; rfl)
              · exact HFR.out 1 (by rw [e]; rfl)
              · exact HFR.out 2 e
              · have := HOB.out.1; omega⟩
        have n1 := HOB.out.2.1
        have n2 := HOB.out.2.2
        by_cases k1 : kd = 1
        · have tk : (kd == 1) = true := by simpa using k1
          clear k1
          by_cases hI : I m = true
          · have ci : W1.cell? ⟨bi, m, none⟩ = some (.bool true) := by rw [← hI]; exact (HM.out.inAt hm).1
            have HI := Aside0.mk hI
            clear hI
            go_wp2_with fail
            go_region_held3 (fun w' => w'.cell? ⟨bi, m, none⟩ = some (.bool true) ∧ w'.cell? ⟨ob, 2, none⟩ = some (.int .i64 pp)) (exact ⟨ci, x2⟩)
                (first | (go_at_call 11; refine (c_push_in (HM.out.stay (dr _)) HP.out hm HI.out pp).mono ?_; rintro e w5 ⟨rfl, rfl⟩))
            all_goals
              have FIN : Aside0 (SS w As ls cs Bf bi (bi + 1) W1.drew (n + 1)) := ⟨ss_mk ((HM.out.stay (dr _)).le (by omega)) HP.out hc0 (by omega) (len_up HG.out)⟩
              clear HM HP HG HBX HFR HOB HSO HI
              go_wp2
              go_meet
              exact FIN
          · have hI : I m = false := by simpa using hI
            have ci : W1.cell? ⟨bi, m, none⟩ = some (.bool false) := by rw [← hI]; exact (HM.out.inAt hm).1
            have hIf := Aside0.mk hI
            clear hI
            go_wp2_with fail
            go_region_held3 (fun w' => w'.cell? ⟨bi, m, none⟩ = some (.bool false) ∧ w'.cell? ⟨ob, 2, none⟩ = some (.int .i64 pp)) (first | exact ⟨ci, x2⟩ | exact ⟨D1.out, D2.out⟩)
                (first | (go_at_call 11; refine (c_push (HM.out.stay (dr _)) HP.out hc0 hcn hlt4 hm hIf.out pp).mono ?_; rintro e w5 ⟨rfl, sv2, L2, c2, hM5, hP5, hd0, hdn, K5, F5⟩; have D1 := Aside0.mk (hIf.out ▸ (hM5.inAt hm).1); have hbx5 := blk_kp (show W1.drew.heap[ob]? = _ from HBX.out) K5 HSO.out; have D2 := Aside0.mk ((blk_cell hbx5 2).trans rfl); clear hbx5))
            all_goals
              go_wp2
              have f1 : w5.frozen? ⟨bi, m, none⟩ = false := (hM5.inAt hm).2
              have f2 : w5.frozen? ⟨bi + 1, m, none⟩ = false := (hM5.gvAt hm).2
              have d1 := D1.out
              have d2 := D2.out
              have d3 := (hM5.gvAt hm).1
              have HM5 := Aside0.mk hM5
              have HP5 := Aside0.mk hP5
              have a2 : (w5.setCell ⟨bi, m, none⟩ (.bool true)).cell? ⟨ob, 2, none⟩ = some (.int .i64 pp) := by rw [World.cell?_setCell_other _ _ _ _ (by intro e; injection e with e1; exact n1 e1.symm)]; exact d2
              obtain ⟨a3, a4⟩ := (hM5.setI hm true).gvAt hm
              have b1 := fun o => ((hM5.stay ((Kp.refl w5 (fun _ => False)).alloc o)).inAt hm).1
              have b2 := fun o => ((hM5.stay ((Kp.refl w5 (fun _ => False)).alloc o)).inAt hm).2
              have b3 := fun o => ((hM5.stay ((Kp.refl w5 (fun _ => False)).alloc o)).gvAt hm).1
              have b4 := fun o => ((hM5.stay ((Kp.refl w5 (fun _ => False)).alloc o)).gvAt hm).2
              have e1 := fun o => (((hM5.setI hm true).stay ((Kp.refl _ (fun _ => False)).alloc o)).gvAt hm).1
              have e2 := fun o => (((hM5.setI hm true).stay ((Kp.refl _ (fun _ => False)).alloc o)).gvAt hm).2
              have e3 := fun o => (((hM5.stay ((Kp.refl w5 (fun _ => False)).alloc o)).setI hm true).gvAt hm).1
              have e4 := fun o => (((hM5.stay ((Kp.refl w5 (fun _ => False)).alloc o)).setI hm true).gvAt hm).2
              obtain ⟨e5, e6⟩ := (hM5.add1 hm pp).inAt hm
              clear hM5 hP5 K5 F5 HM HP HBX HFR HOB HSO
              go_region
              all_goals
                clear f1 f2 d1 d2 d3 a2 a3 a4 b1 b2 b3 b4 e1 e2 e3 e4 e5 e6
                go_wp2
                go_meet
                first
                  | exact ⟨ss_mk (push_1 HM5.out hm pp) HP5.out hd0 hdn (upd_len HG.out)⟩
                  | exact ⟨ss_mk (push_2 HM5.out hm pp) HP5.out hd0 hdn (upd_len HG.out)⟩
                  | exact ⟨ss_mk (push_3 HM5.out hm pp) HP5.out hd0 hdn (upd_len HG.out)⟩
        · have tk : (kd == 1) = false := by simpa using k1
          by_cases k2 : kd = 2
          · have tk2 : (kd == 2) = true := by simpa using k2
            clear k1 k2
            by_cases hI : I m = true
            · have HI := Aside0.mk hI
              clear hI
              go_wp2_with fail
              refine (c_lower_in HM.out HP.out hc0 hcn hlt4 hm HI.out pp).mono ?_
              rintro e w5 ⟨r, rfl, sv2, L2, c2, hM5, hP5, hd0, hdn, K5, F5⟩
              have hbx5 := blk_kp HBX.out K5 HSO.out
              have d2 : w5.cell? ⟨ob, 2, none⟩ = some (.int .i64 pp) := (blk_cell hbx5 2).trans rfl
              have d1 : w5.cell? ⟨bi, m, none⟩ = some (.bool true) := HI.out ▸ (hM5.inAt hm).1
              have d3 := (hM5.gvAt hm).1
              have f2 : w5.frozen? ⟨bi + 1, m, none⟩ = false := (hM5.gvAt hm).2
              have HM5 := Aside0.mk hM5
              have HP5 := Aside0.mk hP5
              clear hM5 hP5 K5 F5 HM HP HBX HFR HOB HSO hbx5
              cases r with
              | false =>
                have FIN : Aside0 (SS w As ls cs Bf bi (bi + 1) w5 (n + 1)) := ⟨ss_mk HM5.out HP5.out hd0 hdn (len_up HG.out)⟩
                clear HM5 HP5 HG
                go_wp2
                go_meet
                exact FIN
              | true =>
                go_wp2
                obtain ⟨i0, hi, hz0, hz1, hz2⟩ := info_parts info3
                have HZ := Aside0.mk hi
                have HZ0 := Aside0.mk hz0
                have HZ1 := Aside0.mk hz1
                have HZ2 := Aside0.mk hz2
                have HR := Aside0.mk (HM5.out.rows m)
                have HGM := Aside0.mk (HG.out m)
                have hbw : w.heap.size + 2 ≤ w5.heap.size := HM5.out.size
                have d3a := fun o => cell_alloc (o := o) d3
                have HNE : Aside0 (∀ o w', ((w5.alloc o).drew).grownBy w' (V m).ownBlock → w'.cell? ⟨bi + 1, m, none⟩ = some (V m) ∧ w'.frozen? ⟨bi + 1, m, none⟩ = false) := ⟨fun o w' hg => by
                  have h4 := HM5.out.gvb
                  have h5 := blk_grown (blk_al (x := o) h4) hg (fun e => absurd (HM5.out.sep 4 (m + 5) _ rfl e.symm) (by omega))
                  exact ⟨(blk_cell h5 m).trans (by simp [hm]), blk_frozen h5 m⟩⟩
                clear hi hz0 hz1 hz2
                generalize hvm : V m = vm at *
                have HVM := Aside0.mk hvm
                clear hvm
                go_region_law (refine step_append_at rfl (.tmp 81) (.tmp 84) 22 rfl (w.heap.size + 2) 3 i0 _ 1 8 Try.underlying22 HZ.out HZ0.out HZ1.out HZ2.out rfl (by decide) vm (G m).length ((G m).map (Value.int .i64)) rfl (by first | exact own_alloc HR.out _ | exact Hp.own_drew (own_alloc HR.out _)) ⟨w5.heap.size, 0, none⟩ 1 1 [.int .i64 pp] rfl rfl (fun j u h => newrow w5 3 _ j u h) (by intro u hu; simp only [List.mem_cons, List.not_mem_nil, or_false] at hu; rcases hu with rfl; rfl) (by have := HGM.out; unfold maxLen; omega) (by have := HGM.out; omega) (by simp; omega) ?_; intro v' w' hown hgrow hloc; obtain ⟨g2, cap2, rfl⟩ := own_sl_ hown; obtain ⟨q1, q2⟩ := HNE.out _ _ hgrow; have HO := Aside0.mk hown; have HGR := Aside0.mk hgrow; have HC := Aside0.mk hloc; clear hown hgrow hloc)
                all_goals
                  have FIN : Aside0 (SS w As ls cs Bf bi (bi + 1) (w'.setCell ⟨bi + 1, m, none⟩ (.slice (some ⟨g2, 0, none⟩) ((G m).length + 1) cap2)) (n + 1)) := ⟨ss_mk (app_end HM5.out hm HO.out (HVM.out ▸ HGR.out) (HVM.out ▸ HC.out)) HP5.out hd0 hdn (upd_len2 HG.out)⟩
                  clear HNE HO HGR HC HR HM5 HP5 d3 d3a d2 d1 f2 q1 q2
                  go_wp2
                  go_meet
                  exact FIN
            · have hI : I m = false := by simpa using hI
              have HI := Aside0.mk hI
              clear hI
              go_wp2_with fail
              refine (c_lower_out HM.out HP.out hm HI.out pp).mono ?_
              rintro e w5 ⟨rfl, K5⟩
              have FIN : Aside0 (SS w As ls cs Bf bi (bi + 1) w5 (n + 1)) := ⟨ss_mk ((HM.out.stay K5).le (by omega)) HP.out hc0 (by omega) (len_up HG.out)⟩
              clear HM HP HG HBX HFR HOB HSO HI K5
              go_wp2
              go_meet
              exact FIN
          · have tk2 : (kd == 2) = false := by simpa using k2
            by_cases k6 : kd = 6
            · have tk6 : (kd == 6) = true := by simpa using k6
              clear k1 k2 k6
              by_cases hI : I m = true
              · have ci : W1.cell? ⟨bi, m, none⟩ = some (.bool true) := by rw [← hI]; exact (HM.out.inAt hm).1
                have HI := Aside0.mk hI
                clear hI
                go_wp2_with fail
                go_region_held3 (fun w' => w'.cell? ⟨bi, m, none⟩ = some (.bool true)) (first | exact ci | exact D1.out)
                  (first | (go_at_call 16; refine (c_drop_in (HM.out.stay (dr _)) HP.out hc0 hcn hlt4 hm HI.out).mono ?_; rintro e w5 ⟨rfl, sv2, L2, c2, hM5, hP5, hd0, hdn, K5, F5⟩; have D1 := Aside0.mk (HI.out ▸ (hM5.inAt hm).1)))
                all_goals
                  have FIN : Aside0 (SS w As ls cs Bf bi (bi + 1) (w5.setCell ⟨bi, m, none⟩ (.bool false)) (n + 1)) := ⟨ss_mk (hM5.setI hm false) hP5 hd0 hdn (len_up HG.out)⟩
                  have d1 := D1.out
                  have f1 : w5.frozen? ⟨bi, m, none⟩ = false := (hM5.inAt hm).2
                  clear hM5 hP5 K5 F5 HM HP HBX HFR HOB HSO
                  go_wp2
                  go_meet
                  exact FIN
              · have hI : I m = false := by simpa using hI
                have ci : W1.cell? ⟨bi, m, none⟩ = some (.bool false) := by rw [← hI]; exact (HM.out.inAt hm).1
                have HI := Aside0.mk hI
                clear hI
                go_wp2_with fail
                go_region_held3 (fun w' => w'.cell? ⟨bi, m, none⟩ = some (.bool false)) (exact ci)
                  (first | (go_at_call 16; refine (c_drop_out (HM.out.stay (dr _)) HP.out hm HI.out).mono ?_; rintro e w5 ⟨rfl, rfl⟩))
                all_goals
                  have hM5 := HM.out.stay (dr W1)
                  have FIN : Aside0 (SS w As ls cs Bf bi (bi + 1) (W1.drew.setCell ⟨bi, m, none⟩ (.bool false)) (n + 1)) := ⟨ss_mk ((hM5.setI hm false).le (by omega)) (by rw [upd_same HI.out]; exact HP.out) hc0 (by omega) (len_up HG.out)⟩
                  have d1 : W1.drew.cell? ⟨bi, m, none⟩ = some (.bool false) := ci
                  have f1 : W1.drew.frozen? ⟨bi, m, none⟩ = false := (hM5.inAt hm).2
                  clear hM5 HM HP HBX HFR HOB HSO ci
                  go_wp2
                  go_meet
                  exact FIN
            · have tk6 : (kd == 6) = false := by simpa using k6
              by_cases k3 : kd = 3
              · have tk3 : (kd == 3) = true := by simpa using k3
                clear k1 k2 k6 k3
                rcases L with _ | ⟨x, L'⟩
                · go_wp2_with fail
                  refine (Hii.pop_nil HM.out.rep rfl).mono ?_
                  rintro e w5 ⟨rfl, rfl⟩
                  have FIN : Aside0 (SS w As ls cs Bf bi (bi + 1) W1 (n + 1)) := ⟨ss_mk (HM.out.le (by omega)) HP.out hc0 (by omega) (len_up HG.out)⟩
                  clear HM HP HG HBX HFR HOB HSO
                  go_wp2
                  go_meet
                  exact FIN
                · go_wp2_with fail
                  refine (c_pop HM.out HP.out hc0 hcn hlt4 (x := x) rfl).mono ?_
                  rintro e w5 ⟨k, hk, hI, hr, rfl, sv2, L2, c2, hM5, hP5, hd0, hdn, K5, F5⟩
                  obtain ⟨g, cp, hv⟩ := gv_slice hM5 hr
                  have d1 : w5.cell? ⟨bi, k, none⟩ = some (.bool true) := hI ▸ (hM5.inAt hk).1
                  have f1 : w5.frozen? ⟨bi, k, none⟩ = false := (hM5.inAt hk).2
                  have d3 := (hM5.gvAt hk).1
                  rw [hv] at d3
                  have HR := Aside0.mk (hv ▸ hM5.rows k)
                  have FIN : Aside0 (SS w As ls cs Bf bi (bi + 1) (w5.setCell ⟨bi, k, none⟩ (.bool false)) (n + 1)) := ⟨ss_mk (hM5.setI hk false) hP5 hd0 hdn (len_up HG.out)⟩
                  have hk0 : (0 : Int) ≤ (k : Int) := by omega
                  have hk1 : (k : Int) < 16 := by omega
                  have hgl : (G k).length ≤ 400 := by have := HG.out k; omega
                  have HRR := Aside0.mk hr
                  generalize x.rank = xr at *
                  have s1 : decide ((k : Int) < 0) = false := by simp
                  have s2 : decide ((15 : Int) < (k : Int)) = false := by simp; omega
                  have s3 : decide ((k : Int) > 15) = false := by simp; omega
                  clear hM5 hP5 K5 F5 HM HP HBX HFR HOB HSO hI hv hr
                  go_wp2_with (first | (go_at_call 17; refine (has_calls g cp (G k) xr _ (w.heap.size + 2) HR.out (by omega) HRR.out).mono ?_; rintro e w6 ⟨rfl, rfl⟩))
                  go_meet
                  exact FIN
              · have tk3 : (kd == 3) = false := by simpa using k3
                clear k1 k2 k6 k3
                have FIN : Aside0 (SS w As ls cs Bf bi (bi + 1) W1 (n + 1)) := ⟨ss_mk (HM.out.le (by omega)) HP.out hc0 (by omega) (len_up HG.out)⟩
                clear HM HP HG HBX HFR HOB HSO
                go_wp2
                go_meet
                exact FIN
      case rest =>
        clear x2 HM HP HG HBX HFR HOB
        obtain ⟨sv, L, c, I, G, V, hM, hP, hc0, hcn, hG⟩ := hcut.out
        have hg := hM.inb
        have HLEN := Aside0.mk (hP.len hM.rep.nodup)
        have HR := Aside0.mk hM.rep
        obtain ⟨arr, harr⟩ : ∃ arr, ((List.range 16).map (fun i => Value.bool (I i))).toArray = arr := ⟨_, rfl⟩
        have HIX : Aside0 (∀ k : Nat, k < 16 → ∀ W, (Instr.index 33 (.agg arr) (.int .i64 k)).run Try.prog W = .ok (.bool (I k)) W) := ⟨fun k hk W => by rw [← harr]; exact idx16 _ k hk W⟩
        have HSZ : Aside0 ((Try.prog.info? 33).map (·.size) = some arr.size) := ⟨by rw [← harr]; kernel_rfl⟩
        rw [harr] at hg
        have HGB := Aside0.mk hg
        have HCUT := Aside0.mk hcut
        clear harr hM hP hG hg hcut
        go_wp2_with (refine wpList_load_row rfl 33 (.tmp 7) rfl bi rfl 33 arr (0, 0) _ HGB.out Try.underlying33 rfl HSZ.out ?_)
        go_loopg [15, 133] 16 (fun g nv jv wx => ∃ j : Nat, j ≤ 16 ∧ g = 16 - j ∧ jv = .int .i64 j ∧ nv = .int .i64 (cnt I j) ∧ wc = wx)
        case atStart => exact ⟨0, by omega, rfl, rfl, rfl, rfl⟩
        case round =>
          obtain ⟨j, hj, hgj, rfl, rfl, rfl⟩ := hrel
          have hcl := cnt_le I j
          by_cases hlj : j < 16
          · have hix := HIX.out j hlj
            have hcs := cnt_succ I j
            have HCS := Aside0.mk hcs
            cases hIj : I j with
            | true =>
              rw [hIj] at hix
              have HIJ := Aside0.mk hIj
              clear hIj hcs
              go_wp2
              go_roundg (16 - (j + 1))
              case measure => omega
              case rel => exact ⟨j + 1, by omega, rfl, by go_num, by rw [HCS.out, HIJ.out]; go_num, rfl⟩
            | false =>
              rw [hIj] at hix
              have HIJ := Aside0.mk hIj
              clear hIj hcs
              go_wp2
              go_roundg (16 - (j + 1))
              case measure => omega
              case rel => exact ⟨j + 1, by omega, rfl, by go_num, by rw [HCS.out, HIJ.out]; go_num, rfl⟩
          · obtain rfl : j = 16 := by omega
            have hlc : L.length = cnt I 16 := HLEN.out
            have HC := Aside0.mk hlc
            clear hlc
            go_wp2_with (first | (go_at_call 18; refine (Hii.len_calls HR.out).mono ?_; rintro e w6 ⟨rfl, rfl⟩; rw [HC.out]))
            go_roundg (400 - (n + 1))
            case measure => omega
            case rel => exact ⟨n + 1, by omega, by omega, rfl, by go_num, HCUT.out⟩
    · obtain ⟨sv, L, c, I, G, V, hM, _⟩ := HS.out
      have HK := Aside0.mk hM.kept
      clear hM HS
      have hor : ¬ n < len ∨ (n < len ∧ ¬ n < 400) := by omega
      rcases hor with hn | ⟨hn, hn2⟩
      · clear hlt
        go_wp2
        go_ret
        exact ⟨rfl, HK.out⟩
      · clear hlt
        go_wp2
        go_ret
        exact ⟨rfl, HK.out⟩
theorem wrong (A : Option Addr) (len cap : Nat) (T : Nat → Int × Int × Int) (As : Option Addr) (ls cs : Nat) (Bf : Nat → Bool) (w : World) (hlc : len ≤ cap) (hcm : cap ≤ maxLen)
    (hT : ∀ i, i < len → ∃ a, A = some a ∧ w.cell? (a.add (i * 3)) = some (.int .i64 (T i).1) ∧ w.cell? (a.add (i * 3 + 1)) = some (.int .i64 (T i).2.1) ∧ w.cell? (a.add (i * 3 + 2)) = some (.int .i64 (T i).2.2) ∧ (Lit.int .i64 (T i).1).wf = true ∧ (Lit.int .i64 (T i).2.1).wf = true ∧ (Lit.int .i64 (T i).2.2).wf = true)
    (hlc2 : ls ≤ cs) (hcm2 : cs ≤ maxLen) (hs : ∀ i, i < ls → ∃ a, As = some a ∧ w.cell? (a.add i) = some (.bool (Bf i))) :
    Calls Try.prog 5 #[.slice A len cap, .slice As ls cs] w fun e w' => e = .returned (.bool true) ∧ Below w.heap.size w w' := by
  unfold maxLen at hcm hcm2
  refine (wrong_calls A len cap T As ls cs Bf w (by omega) (fun i hi => ?_) hs (by omega)).mono fun _ _ h => ⟨h.1, h.2.to_below⟩
  obtain ⟨a, h1, h2, h3, h4, _⟩ := hT i hi
  exact ⟨a, h1, h2, h3, h4⟩
end Go.Proofs.Ytiblnccbeefdkaa.Wr
