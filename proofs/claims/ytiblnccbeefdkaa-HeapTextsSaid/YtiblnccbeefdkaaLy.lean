/- This text proves the law HeapTexts as a walk: true whatever the keys. -/
import Derived.Test.YtiblnccbeefdkaaLx
import Derived.Deep.DeepCutAuto
import Derived.Deep.DeepMust
namespace Go.Proofs.Ytiblnccbeefdkaa.Lx
open Go.RowKit Go.Proofs.YtiblnccbeefdkaaW.PrintWords Go.Proofs.Ytiblnccbeefdkaa.Mp Go.Proofs.Ytiblnccbeefdkaa.Hp Go.Proofs.Ytiblnccbeefdkaa.Aw
set_option linter.unusedVariables false
theorem info9 : (Try.prog.info? 9).map (fun i => (i.zero, i.size, i.bytes)) = some (some (Value.string ByteArray.empty), 1, 16) := by kernel_rfl
set_option maxHeartbeats 4000000 in
set_option maxRecDepth 100000 in
theorem texts_calls (A : Option Addr) (len cap : Nat) (Sx : Nat → ByteArray) (w : World) (hl : len ≤ cap) (hm : cap ≤ maxLen) (hS : ∀ i, i < len → ∃ a, A = some a ∧ w.cell? (a.add i) = some (.string (Sx i))) :
    Calls Try.prog 7 #[.slice A len cap] w fun e w' => e = .returned (.bool true) ∧ Kp w w' (fun _ => False) := by
  have hlen : len ≤ 9223372036854775807 := by unfold maxLen at hm; omega
  have HS := Aside0.mk hS
  clear hS hl hm
  have HL := Aside0.mk (Hsa.ok44 w.heap.size)
  obtain ⟨n, hn⟩ : ∃ n : Nat, n = min len 400 := ⟨_, rfl⟩
  have hn4 : n ≤ 400 := by omega
  have hnl : n ≤ len := by omega
  have HN : Aside0 (n = len ∨ n = 400) := ⟨by omega⟩
  clear hn
  go_enter Try.func7, Try.ntmps7
  go_wp2_with fail
  refine (Hsa.new_nil w).mono ?_
  rintro e w1 ⟨rfl, R1, K1⟩
  have S1 := Aside0.mk (tx_new R1 K1)
  clear R1 K1
  go_wp2_with fail
  refine (awake_calls w1).mono ?_
  rintro e w2 ⟨rfl, K2⟩
  have S2 := Aside0.mk (S1.out.stay K2)
  clear K2 S1
  go_wp2_with fail
  go_loopw [4, 5, 6, 8] (fun cv iv _ _ wr => ∃ i : Nat, i ≤ n ∧ iv = .int .i64 i ∧ Aside0 (∃ sv L M, Tx w wr (w.heap.size + 1) w.heap.size sv L M 0 cv (keys M) ∧ M.length ≤ i)) (fun _ iv _ _ _ => n - (intOf iv).toNat)
  case atStart => exact ⟨0, by omega, rfl, ⟨_, _, _, S2.out, by simp⟩⟩
  case round =>
    clear S2
    obtain ⟨i, hi, rfl, HT⟩ := hrel
    by_cases hlt : i < n
    · obtain ⟨sv, L, M, T, hM⟩ := HT.out
      clear HT
      obtain ⟨a, cap2, rfl⟩ := T.slice
      have HT := Aside0.mk T
      have HM := Aside0.mk hM
      clear T hM
      have h1 : decide ((i : Int) < (len : Int)) = true := decide_eq_true (by omega)
      have h2 : decide ((i : Int) < 400) = true := decide_eq_true (by omega)
      have hml : (keys M).length ≤ 400 := by rw [show (keys M).length = M.length from List.length_map ..]; have := HM.out; omega
      have HK0 : Aside0 (Kp w wr (fun _ => False)) := ⟨HT.out.kept⟩
      go_wp2_with fail
      go_loopw [6, 8, 34] (fun bv _ jv wj => ∃ (j : Nat) (b : Bool), j ≤ (keys M).length ∧ jv = .int .i64 j ∧ bv = .bool b ∧ wj = wr ∧ Aside0 (b = true ↔ Sx i ∈ (keys M).take j)) (fun _ _ jv _ => (keys M).length - (intOf jv).toNat)
      case atStart => exact ⟨0, false, by omega, rfl, rfl, rfl, ⟨by simp⟩⟩
      case round =>
        obtain ⟨j, b, hj, rfl, rfl, rfl, HB⟩ := hrel
        by_cases hjl : j < (keys M).length
        · obtain ⟨k, hk⟩ : ∃ k, (keys M)[j]? = some k := ⟨_, List.getElem?_eq_getElem hjl⟩
          obtain ⟨g, rfl, hc⟩ := HT.out.at_ hk
          obtain ⟨ad, rfl, hs⟩ := HS.out i (by omega)
          have hs2 := cell_kp hs HK0.out (fun h => h)
          have HKK := Aside0.mk hk
          clear hk hs
          have HB1 : Aside0 ((b || (k.toList == (Sx i).toList)) = true ↔ Sx i ∈ (keys M).take (j + 1)) := ⟨by rw [Bool.or_eq_true, txt_eq]; exact in_step HKK.out HB.out⟩
          cases b with
          | true =>
            go_wp2
            go_roundw
            case measure => simp [intOf]; omega
            case rel => exact ⟨j + 1, true, by omega, by go_num, rfl, trivial, HB1⟩
          | false =>
            go_wp2
            go_roundw
            case measure => simp [intOf]; omega
            case rel => exact ⟨j + 1, _, by omega, by go_num, rfl, trivial, HB1⟩
        · obtain rfl : j = (keys M).length := by omega
          have HB1 : Aside0 (b = true ↔ Sx i ∈ keys M) := ⟨by rw [HB.out, List.take_length]⟩
          clear HB
          obtain ⟨ad, rfl, hs⟩ := HS.out i (by omega)
          have hs2 := cell_kp hs HK0.out (fun h => h)
          have HW := Aside0.mk hs
          clear hs
          cases b with
          | true =>
            have HI : Aside0 (Sx i ∈ keys M) := ⟨HB1.out.1 rfl⟩
            clear HB1
            go_wp2_with fail
            go_region_held3 (fun w' => w'.cell? (ad.add i) = some (.string (Sx i))) (first | exact hs2 | exact D1.out | exact D2.out)
              (first
                | (go_at_call 22; go_must (refine ((HT.out.stay (dr _)).c_push_in HI.out ((i : Int), ((Sx i).size : Int))).mono ?_); rintro e w5 ⟨rfl, T5⟩; have D1 := Aside0.mk (cell_kp HW.out T5.kept (fun h => h)))
                | (go_at_call 23; refine (T5.c_lower HI.out ((0 : Int), (0 : Int))).mono ?_; rintro e w6 ⟨rfl, T6⟩; have D2 := Aside0.mk (cell_kp HW.out T6.kept (fun h => h))))
            clear HT HK0 hs2 D1 D2 T5
            have HT := Aside0.mk T6
            clear T6
            go_wp2
            go_roundw
            case measure => simp [intOf]; omega
            case rel => exact ⟨i + 1, by omega, by go_num, ⟨sv, L, M, HT.out, by have := HM.out; omega⟩⟩
          | false =>
            have HI : Aside0 (Sx i ∉ keys M) := ⟨fun h => by have := HB1.out.2 h; cases this⟩
            clear HB1
            have HMI : Aside0 (Sx i ∈ keys (M ++ [⟨Sx i, ((i : Int), ((Sx i).size : Int)), (M.length : Int) + 1⟩])) := ⟨by simp [keys]⟩
            go_wp2_with fail
            go_region_held3 (fun w' => w'.cell? (ad.add i) = some (.string (Sx i))) (first | exact hs2 | exact D1.out | exact D2.out)
              (first
                | (go_at_call 22; refine ((HT.out.stay (dr _)).c_push HI.out ((i : Int), ((Sx i).size : Int)) rfl (by have := HM.out; omega)).mono ?_; rintro e w5 ⟨rfl, sv5, L5, T5⟩; have D1 := Aside0.mk (cell_kp HW.out T5.kept (fun h => h)))
                | (go_at_call 23; refine (T5.c_lower HMI.out ((0 : Int), (0 : Int))).mono ?_; rintro e w6 ⟨rfl, T6⟩; have D2 := Aside0.mk (cell_kp HW.out T6.kept (fun h => h))))
            clear HT HK0 hs2 D1 D2 T5
            have HT := Aside0.mk T6
            clear T6
            generalize hX : (⟨Sx i, ((i : Int), ((Sx i).size : Int)), (M.length : Int) + 1⟩ : It ByteArray (Int × Int)) = X at *
            have hXk : X.key = Sx i := by rw [← hX]
            have HXk := Aside0.mk hXk
            clear hX hXk
            go_wp2_with (first | (at_builtin; go_must ((refine print_append_of (w0 := w) Value.string w.heap.size rfl (.tmp 74) (.tmp 79) 45 9 (.string ByteArray.empty) 16 rfl Try.underlying45 info9 rfl (by decide) (.slice a (keys M).length cap2) (keys M) (Sx i) rfl rfl rfl HT.out.row HT.out.kept.to_below HT.out.kept.size (by omega) ?_) ; intro v7 w7 hown hB hg hat; have T7 := HT.out.app (k := Sx i) hown hg hat; rw [← HXk.out, show keys M ++ [X.key] = keys (M ++ [X]) by simp [keys]] at T7; clear hown hB hg hat)))
            clear HT HMI
            have HT : Aside0 (∃ sv L M, Tx w w7 (w.heap.size + 1) w.heap.size sv L M 0 v7 (keys M) ∧ M.length ≤ i + 1) := ⟨_, _, _, T7, by have := HM.out; simp; omega⟩
            clear T7
            go_roundw
            case measure => simp [intOf]; omega
            case rel => exact ⟨i + 1, by omega, by go_num, HT⟩
    · obtain rfl : i = n := by omega
      obtain ⟨sv, L, M, T, hM⟩ := HT.out
      clear HT
      obtain ⟨a, cap2, rfl⟩ := T.slice
      have HT := Aside0.mk T
      have HM := Aside0.mk hM
      have HML : Aside0 ((keys M).length = M.length) := ⟨List.length_map ..⟩
      have hm400 : (keys M).length ≤ 400 := by have := HM.out; have := HML.out; omega
      clear T hM
      go_wp2_with fail
      · exfalso; have := HN.out; omega
      all_goals
        go_loopw [9, 10, 11, 12, 13, 14, 83] (fun _ _ _ _ _ _ tv wr => ∃ t : Nat, t ≤ (keys M).length ∧ tv = .int .i64 t ∧ Aside0 (∃ sv L, Tx w wr (w.heap.size + 1) w.heap.size sv L M t (.slice a (keys M).length cap2) (keys M))) (fun _ _ _ _ _ _ tv _ => (keys M).length - (intOf tv).toNat)
        case atStart => exact ⟨0, by omega, rfl, ⟨_, _, HT.out⟩⟩
        case round =>
          clear HT
          obtain ⟨t, ht, rfl, HT⟩ := hrel
          by_cases htl : t < (keys M).length
          · obtain ⟨x, hx⟩ : ∃ x, M[t]? = some x := ⟨_, List.getElem?_eq_getElem (by have := HML.out; omega)⟩
            obtain ⟨sv2, L2, T⟩ := HT.out
            have hk : (keys M)[t]? = some x.key := by simp [keys, hx]
            obtain ⟨g, rfl, hc⟩ := T.at_ hk
            have HX := Aside0.mk hx
            have HK := Aside0.mk hk
            have HT2 := Aside0.mk T
            clear T HT hx hk
            go_wp2_with fail
            refine (HT2.out.c_get HX.out).mono ?_
            rintro e w5 ⟨rfl, T5, K5⟩
            have hc5 := cell_kp hc K5 (fun h => h)
            have HT5 := Aside0.mk T5
            clear T5 K5 HT2 hc
            go_wp2_with fail
            have bp := heap_alloc_new w5 (.cells #[.int .i64 x.rank.1, .int .i64 x.rank.2] 48)
            have ka : Kp w5 (w5.alloc (.cells #[.int .i64 x.rank.1, .int .i64 x.rank.2] 48)) (fun _ => False) := (Kp.refl _ _).alloc _
            have hnm : ¬ Mine (w.heap.size + 1) w.heap.size sv2 w5.heap.size := (Hsa.boxed HT5.out.rep (.cells #[.int .i64 x.rank.1, .int .i64 x.rank.2] 48)).2.2.2
            have HT6 := Aside0.mk (HT5.out.stay ka)
            have HG6 : Aside0 (¬ Mine (w.heap.size + 1) w.heap.size sv2 g) := ⟨HT5.out.sep g rfl⟩
            have hc6 := cell_kp hc5 ka (fun h => h)
            clear HT5 ka hc5
            generalize w5.alloc (.cells #[.int .i64 x.rank.1, .int .i64 x.rank.2] 48) = w6 at *
            generalize w5.heap.size = bx at *
            have BP := Aside0.mk bp
            have HNM := Aside0.mk hnm
            clear bp hnm
            refine (HT6.out.c_pop HX.out (by have := HML.out; omega)).mono ?_
            rintro e w7 ⟨rfl, sv7, L7, T7, K7, O7⟩
            have hc7 := cell_kp hc6 K7 (fun h => h.elim HG6.out id)
            have bp7 := blk_kp BP.out K7 (fun h => h.elim HNM.out id)
            have b0 : w7.cell? ⟨bx, 0, none⟩ = some (.int .i64 x.rank.1) := (blk_cell bp7 0).trans rfl
            have b1 : w7.cell? ⟨bx, 1, none⟩ = some (.int .i64 x.rank.2) := (blk_cell bp7 1).trans rfl
            have HT7 := Aside0.mk T7
            have HQ : Aside0 (x.rank.2 = (x.key.size : Int)) := ⟨HT7.out.size2 x (List.mem_of_getElem? HX.out)⟩
            clear T7 K7 O7 HT6 HG6 HNM hc6 BP bp7
            go_upto_region 23 with (fail)
            have bp := heap_alloc_new w7 (.cells #[.int .i64 x.rank.1, .int .i64 x.rank.2] 48)
            have ka : Kp w7 (w7.alloc (.cells #[.int .i64 x.rank.1, .int .i64 x.rank.2] 48)) (fun _ => False) := (Kp.refl _ _).alloc _
            have HT8 := Aside0.mk (HT7.out.stay ka)
            have d0 := cell_kp b0 ka (fun h => h)
            have d1 := cell_kp b1 ka (fun h => h)
            have hc8 := cell_kp hc7 ka (fun h => h)
            clear HT7 ka b0 b1 hc7
            generalize w7.alloc (.cells #[.int .i64 x.rank.1, .int .i64 x.rank.2] 48) = w8 at *
            generalize w7.heap.size = by_ at *
            have e0 : w8.cell? ⟨by_, 0, none⟩ = some (.int .i64 x.rank.1) := (blk_cell bp 0).trans rfl
            have e1 : w8.cell? ⟨by_, 1, none⟩ = some (.int .i64 x.rank.2) := (blk_cell bp 1).trans rfl
            clear bp
            have hq := HQ.out
            rw [hq] at d1 e1
            have hE := eq48 x.rank.1 (x.key.size : Int) w8
            clear HQ hq
            go_wp2_with fail
            have HT9 : Aside0 (∃ sv L, Tx w w8 (w.heap.size + 1) w.heap.size sv L M (t + 1) (.slice (some ⟨g, 0, none⟩) (keys M).length cap2) (keys M)) := ⟨_, _, HT8.out⟩
            clear HT8 d0 d1 e0 e1 hc8 hE
            go_roundw
            case measure => simp [intOf]; omega
            case rel => exact ⟨t + 1, by omega, by go_num, HT9⟩
          · obtain rfl : t = (keys M).length := by omega
            obtain ⟨sv2, L2, T⟩ := HT.out
            have hl := T.len
            have hl2 : L2.length = 0 := by have := HML.out; omega
            have HT2 := Aside0.mk T
            have HL2 := Aside0.mk hl2
            clear T HT hl hl2
            go_wp2_with fail
            refine (Hsa.len_calls HT2.out.rep).mono ?_
            rintro e w9 ⟨rfl, rfl⟩
            rw [HL2.out]
            go_wp2
            go_ret
            exact ⟨rfl, HT2.out.kept⟩
end Go.Proofs.Ytiblnccbeefdkaa.Lx
