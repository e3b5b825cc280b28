/- This text proves what the program's Text answers of any float: its eight digits, as a walk. -/
import Derived.Test.YtbmphjnaefliaaaFlt
import Derived.Test.YtbmphjnaefliaaaWMore
import Derived.Deep.DeepMust
namespace Go.Proofs.Ytbmphjnaefliaaa.Txt
open Go.RowKit Go.Proofs.YtbmphjnaefliaaaW.PrintWords
open Go.Proofs.Ytbmphjnaefliaaa Go.Proofs.Ytbmphjnaefliaaa.Flt
set_option linter.unusedVariables false

/-- a digit's letter -/
def dg (n : Nat) : Int := if n < 10 then 48 + n else 87 + n
theorem idx_run (n : Nat) (hn : n < 16) (W : World) : (Instr.index 9 (.string ⟨#[48, 49, 50, 51, 52, 53, 54, 55, 56, 57, 97, 98, 99, 100, 101, 102]⟩) (.int .u32 (n : Int))).run Try.prog W = .ok (.int .u8 (dg n)) W := by
  rcases (show n = 0 ∨ n = 1 ∨ n = 2 ∨ n = 3 ∨ n = 4 ∨ n = 5 ∨ n = 6 ∨ n = 7 ∨ n = 8 ∨ n = 9 ∨ n = 10 ∨ n = 11 ∨ n = 12 ∨ n = 13 ∨ n = 14 ∨ n = 15 by omega) with rfl | rfl | rfl | rfl | rfl | rfl | rfl | rfl | rfl | rfl | rfl | rfl | rfl | rfl | rfl | rfl <;> kernel_rfl

theorem and15 (y : Nat) (h : y < 4294967296) : Go.bits .and .u32 (y : Int) 15 = ((y % 16 : Nat) : Int) := by
  have := u32_and_nat y 15 h (by omega)
  rw [show ((15 : Nat) : Int) = 15 from rfl] at this
  rw [this, show (15 : Nat) = 2 ^ 4 - 1 from rfl, Nat.and_two_pow_sub_one_eq_mod]

/-- the eight digits -/
def textL (b : Nat) : List Int := [dg (b / 268435456 % 16), dg (b / 16777216 % 16), dg (b / 1048576 % 16), dg (b / 65536 % 16), dg (b / 4096 % 16), dg (b / 256 % 16), dg (b / 16 % 16), dg (b / 1 % 16)]
def cellsT (b k : Nat) : Array Value := (((textL b).take k ++ List.replicate (8 - k) 0).map (Value.int .u8)).toArray

theorem text_calls (x : Nat) (hx : x < 4294967296) (w : World) : Calls Try.prog 26 #[.float .f32 x] w fun e w' => e = .returned (.string (strOfNums (textL (bitsW x)))) ∧ Below w.heap.size w w' := by
  have hmk : ∀ w, (Instr.makeSlice 57 (.int .i64 8) (.int .i64 8)).run Try.prog w = .ok (.slice (some ⟨w.heap.size, 0, none⟩) 8 8) (w.alloc (.cells #[.int .u8 0, .int .u8 0, .int .u8 0, .int .u8 0, .int .u8 0, .int .u8 0, .int .u8 0, .int .u8 0] 5)) := fun _ => by kernel_rfl
  have hb : bitsW x < 4294967296 := by unfold bitsW; split <;> omega
  go_enter Try.func26, Try.ntmps26
  go_wp2_with (go_at_call 16; refine (bits_calls x hx _).mono ?_; rintro e w' ⟨rfl, rfl⟩)
  clear hmk
  generalize hbx : bitsW x = b at *
  have HX := Aside0.mk hbx
  clear hbx
  go_loopw [11] (fun i wr => ∃ k : Nat, k ≤ 8 ∧ i = .int .i64 k ∧ Aside0 (wr.heap[w.heap.size]? = some (.cells (cellsT b k) 5 (0, 0))) ∧ Aside0 (Below w.heap.size w wr)) (fun i _ => 8 - (intOf i).toNat)
  case atStart => exact ⟨0, by omega, rfl, ⟨heap_alloc_new _ _⟩, ⟨(Below.refl _ _).alloc (Nat.le_refl _) _⟩⟩
  case round =>
    obtain ⟨k, hk, rfl, HK, HB⟩ := hrel
    by_cases hlt : k < 8
    · rcases (show k = 0 ∨ k = 1 ∨ k = 2 ∨ k = 3 ∨ k = 4 ∨ k = 5 ∨ k = 6 ∨ k = 7 by omega) with rfl | rfl | rfl | rfl | rfl | rfl | rfl | rfl
      · have hand : Go.bits .and .u32 ((b : Int) / 268435456) 15 = ((b / 268435456 % 16 : Nat) : Int) := by
          have := and15 (b / 268435456) (by omega)
          rw [show ((b / 268435456 : Nat) : Int) = (b : Int) / 268435456 from by omega] at this
          exact this
        obtain ⟨n, hn, hnl⟩ : ∃ n, n = b / 268435456 % 16 ∧ n < 16 := ⟨_, rfl, by omega⟩
        rw [← hn] at hand
        have HN := Aside0.mk hn
        clear hn
        have hidx := idx_run n hnl
        have hc : wr.cell? ⟨w.heap.size, 0, none⟩ = some (.int .u8 0) := (blk_cell HK.out 0).trans rfl
        have hf := blk_frozen HK.out 0
        go_wp2
        go_roundw
        case measure => simp [intOf]
        case rel => exact ⟨1, by omega, by go_num, ⟨by rw [HN.out]; exact blk_put HK.out 0 _ rfl⟩, ⟨HB.out.setCell (by simp) _⟩⟩
      · have hand : Go.bits .and .u32 ((b : Int) / 16777216) 15 = ((b / 16777216 % 16 : Nat) : Int) := by
          have := and15 (b / 16777216) (by omega)
          rw [show ((b / 16777216 : Nat) : Int) = (b : Int) / 16777216 from by omega] at this
          exact this
        obtain ⟨n, hn, hnl⟩ : ∃ n, n = b / 16777216 % 16 ∧ n < 16 := ⟨_, rfl, by omega⟩
        rw [← hn] at hand
        have HN := Aside0.mk hn
        clear hn
        have hidx := idx_run n hnl
        have hc : wr.cell? ⟨w.heap.size, 1, none⟩ = some (.int .u8 0) := (blk_cell HK.out 1).trans rfl
        have hf := blk_frozen HK.out 1
        go_wp2
        go_roundw
        case measure => simp [intOf]
        case rel => exact ⟨2, by omega, by go_num, ⟨by rw [HN.out]; exact blk_put HK.out 1 _ rfl⟩, ⟨HB.out.setCell (by simp) _⟩⟩
      · have hand : Go.bits .and .u32 ((b : Int) / 1048576) 15 = ((b / 1048576 % 16 : Nat) : Int) := by
          have := and15 (b / 1048576) (by omega)
          rw [show ((b / 1048576 : Nat) : Int) = (b : Int) / 1048576 from by omega] at this
          exact this
        obtain ⟨n, hn, hnl⟩ : ∃ n, n = b / 1048576 % 16 ∧ n < 16 := ⟨_, rfl, by omega⟩
        rw [← hn] at hand
        have HN := Aside0.mk hn
        clear hn
        have hidx := idx_run n hnl
        have hc : wr.cell? ⟨w.heap.size, 2, none⟩ = some (.int .u8 0) := (blk_cell HK.out 2).trans rfl
        have hf := blk_frozen HK.out 2
        go_wp2
        go_roundw
        case measure => simp [intOf]
        case rel => exact ⟨3, by omega, by go_num, ⟨by rw [HN.out]; exact blk_put HK.out 2 _ rfl⟩, ⟨HB.out.setCell (by simp) _⟩⟩
      · have hand : Go.bits .and .u32 ((b : Int) / 65536) 15 = ((b / 65536 % 16 : Nat) : Int) := by
          have := and15 (b / 65536) (by omega)
          rw [show ((b / 65536 : Nat) : Int) = (b : Int) / 65536 from by omega] at this
          exact this
        obtain ⟨n, hn, hnl⟩ : ∃ n, n = b / 65536 % 16 ∧ n < 16 := ⟨_, rfl, by omega⟩
        rw [← hn] at hand
        have HN := Aside0.mk hn
        clear hn
        have hidx := idx_run n hnl
        have hc : wr.cell? ⟨w.heap.size, 3, none⟩ = some (.int .u8 0) := (blk_cell HK.out 3).trans rfl
        have hf := blk_frozen HK.out 3
        go_wp2
        go_roundw
        case measure => simp [intOf]
        case rel => exact ⟨4, by omega, by go_num, ⟨by rw [HN.out]; exact blk_put HK.out 3 _ rfl⟩, ⟨HB.out.setCell (by simp) _⟩⟩
      · have hand : Go.bits .and .u32 ((b : Int) / 4096) 15 = ((b / 4096 % 16 : Nat) : Int) := by
          have := and15 (b / 4096) (by omega)
          rw [show ((b / 4096 : Nat) : Int) = (b : Int) / 4096 from by omega] at this
          exact this
        obtain ⟨n, hn, hnl⟩ : ∃ n, n = b / 4096 % 16 ∧ n < 16 := ⟨_, rfl, by omega⟩
        rw [← hn] at hand
        have HN := Aside0.mk hn
        clear hn
        have hidx := idx_run n hnl
        have hc : wr.cell? ⟨w.heap.size, 4, none⟩ = some (.int .u8 0) := (blk_cell HK.out 4).trans rfl
        have hf := blk_frozen HK.out 4
        go_wp2
        go_roundw
        case measure => simp [intOf]
        case rel => exact ⟨5, by omega, by go_num, ⟨by rw [HN.out]; exact blk_put HK.out 4 _ rfl⟩, ⟨HB.out.setCell (by simp) _⟩⟩
      · have hand : Go.bits .and .u32 ((b : Int) / 256) 15 = ((b / 256 % 16 : Nat) : Int) := by
          have := and15 (b / 256) (by omega)
          rw [show ((b / 256 : Nat) : Int) = (b : Int) / 256 from by omega] at this
          exact this
        obtain ⟨n, hn, hnl⟩ : ∃ n, n = b / 256 % 16 ∧ n < 16 := ⟨_, rfl, by omega⟩
        rw [← hn] at hand
        have HN := Aside0.mk hn
        clear hn
        have hidx := idx_run n hnl
        have hc : wr.cell? ⟨w.heap.size, 5, none⟩ = some (.int .u8 0) := (blk_cell HK.out 5).trans rfl
        have hf := blk_frozen HK.out 5
        go_wp2
        go_roundw
        case measure => simp [intOf]
        case rel => exact ⟨6, by omega, by go_num, ⟨by rw [HN.out]; exact blk_put HK.out 5 _ rfl⟩, ⟨HB.out.setCell (by simp) _⟩⟩
      · have hand : Go.bits .and .u32 ((b : Int) / 16) 15 = ((b / 16 % 16 : Nat) : Int) := by
          have := and15 (b / 16) (by omega)
          rw [show ((b / 16 : Nat) : Int) = (b : Int) / 16 from by omega] at this
          exact this
        obtain ⟨n, hn, hnl⟩ : ∃ n, n = b / 16 % 16 ∧ n < 16 := ⟨_, rfl, by omega⟩
        rw [← hn] at hand
        have HN := Aside0.mk hn
        clear hn
        have hidx := idx_run n hnl
        have hc : wr.cell? ⟨w.heap.size, 6, none⟩ = some (.int .u8 0) := (blk_cell HK.out 6).trans rfl
        have hf := blk_frozen HK.out 6
        go_wp2
        go_roundw
        case measure => simp [intOf]
        case rel => exact ⟨7, by omega, by go_num, ⟨by rw [HN.out]; exact blk_put HK.out 6 _ rfl⟩, ⟨HB.out.setCell (by simp) _⟩⟩
      · have hand : Go.bits .and .u32 ((b : Int)) 15 = ((b / 1 % 16 : Nat) : Int) := by
          have := and15 (b / 1) (by omega)
          rw [show ((b / 1 : Nat) : Int) = (b : Int) from by omega] at this
          exact this
        obtain ⟨n, hn, hnl⟩ : ∃ n, n = b / 1 % 16 ∧ n < 16 := ⟨_, rfl, by omega⟩
        rw [← hn] at hand
        have HN := Aside0.mk hn
        clear hn
        have hidx := idx_run n hnl
        have hc : wr.cell? ⟨w.heap.size, 7, none⟩ = some (.int .u8 0) := (blk_cell HK.out 7).trans rfl
        have hf := blk_frozen HK.out 7
        go_wp2
        go_roundw
        case measure => simp [intOf]
        case rel => exact ⟨8, by omega, by go_num, ⟨by rw [HN.out]; exact blk_put HK.out 7 _ rfl⟩, ⟨HB.out.setCell (by simp) _⟩⟩
    · obtain rfl : k = 8 := by omega
      have hcv : (convert 57 9 (.slice (some ⟨w.heap.size, 0, none⟩) 8 8)).run Try.prog wr = .ok (.string (strOfNums (textL b))) wr := by
        have hl : (textL b).length = 8 := rfl
        refine Kd.C_string (e := 5) Try.underlying57 Try.underlying5 Try.underlying9 (Kd.C_of_reads (d := (0 : Int)) (h1 := fun _ => rfl) ⟨hl, by omega, fun _ => ⟨_, rfl, fun j hj => ?_⟩⟩)
        have e1 : (⟨w.heap.size, 0, none⟩ : Addr).add j = ⟨w.heap.size, j, none⟩ := by
          unfold Addr.add; by_cases h : j = 0 <;> simp [h]
        rw [e1, blk_cell HK.out j]
        simp [cellsT, hl, List.take_of_length_le, List.getD_eq_getElem?_getD, List.getElem?_eq_getElem (show j < (textL b).length by omega)]
      go_wp2
      go_ret
      exact ⟨by rw [HX.out]; rfl, HB.out⟩
end Go.Proofs.Ytbmphjnaefliaaa.Txt
