/- This text walks the heap's functions over keys and ranks of one kind (ii): printed by gen.py. -/
import Derived.Test.YtiocnkoogachkaaHq
namespace Go.Proofs.Ytiocnkoogachkaa.Hii
open Go.RowKit Go.Proofs.YtiocnkoogachkaaW.PrintWords Go.Proofs.Ytiocnkoogachkaa.Mp Go.Proofs.Ytiocnkoogachkaa.Hp
set_option linter.unusedVariables false
set_option linter.unusedSimpArgs false
/-- How these items lie. -/
def F : HForm Int Int where
  f := fun x => [.int .i64 x.key, .int .i64 x.rank, .int .i64 x.came]
  sz := 3
  st := 84
  it := 86
  d := .int .i64
  kv := (fun n : Int => Value.int .i64 n)
  len := fun _ => rfl
  pos := by decide
  KV := (kv_int .i64)
  ne := by decide
theorem put_item {W : World} {base g cap n : Nat} {L : List (It Int Int)} (h : W.ownsRow base F.it F.sz (.slice (some ⟨g, 0, none⟩) n cap) n (flat F L)) (i : Nat) (y : It Int Int) (hi : i < L.length) :
    (((W.setCell ⟨g, i * 3, none⟩ (.int .i64 y.key)).setCell ⟨g, i * 3 + 1, none⟩ (.int .i64 y.rank)).setCell ⟨g, i * 3 + 2, none⟩ (.int .i64 y.came)).ownsRow base F.it F.sz (.slice (some ⟨g, 0, none⟩) n cap) n (flat F (L.set i y)) := by
  have h0 := own_set h (i * 3) (.int .i64 y.key)
  have h1 := own_set h0 (i * 3 + 1) (.int .i64 y.rank)
  have h2 := own_set h1 (i * 3 + 2) (.int .i64 y.came)
  have hl : (flat F L).length = L.length * 3 := flat_len F L
  have hlt : i * 3 + 3 ≤ L.length * 3 := by have := Nat.mul_le_mul_right 3 (show i + 1 ≤ L.length from hi); omega
  have e : ((((flat F L).set (i * 3) (.int .i64 y.key)).set (i * 3 + 1) (.int .i64 y.rank)).set (i * 3 + 2) (.int .i64 y.came)) = flat F (L.set i y) := by
    refine flat_set F L i y hi _ (by simp only [List.length_set]) ?_ ?_
    · intro k hk
      have hk : k < 3 := hk
      show _[i * 3 + k]? = _
      rcases (show k = 0 ∨ k = 1 ∨ k = 2 by omega) with rfl | rfl | rfl
      · change _[i * 3]? = _
        rw [List.getElem?_set_ne (by omega), List.getElem?_set_ne (by omega), List.getElem?_set_self (by omega)]
        rfl
      · rw [List.getElem?_set_ne (by omega), List.getElem?_set_self (by rw [List.length_set]; omega)]
        rfl
      · rw [List.getElem?_set_self (by rw [List.length_set, List.length_set]; omega)]
        rfl
    · intro m hm
      have hm : m < i * 3 ∨ (i + 1) * 3 ≤ m := hm
      rw [Nat.add_mul] at hm
      rw [List.getElem?_set_ne (by omega), List.getElem?_set_ne (by omega), List.getElem?_set_ne (by omega)]
  rw [e] at h2
  exact h2
theorem put_item' {W : World} {base g cap n : Nat} {L : List (It Int Int)} (h : W.ownsRow base F.it F.sz (.slice (some ⟨g, 0, none⟩) n cap) n (flat F L)) (i : Nat) (y : It Int Int) (hi : i < L.length) (_ : True) :
    (((W.setCell ⟨g, i * 3, none⟩ (.int .i64 y.key)).setCell ⟨g, i * 3 + 1, none⟩ (.int .i64 y.rank)).setCell ⟨g, i * 3 + 2, none⟩ (.int .i64 y.came)).drew.ownsRow base F.it F.sz (.slice (some ⟨g, 0, none⟩) n cap) n (flat F (L.set i y)) := put_item h i y hi
end Go.Proofs.Ytiocnkoogachkaa.Hii
