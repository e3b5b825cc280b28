/- This text walks the heap's functions over keys and ranks of one kind (sa): printed by gen.py. -/
import Derived.Test.YtiblnccbeefdkaaHq
namespace Go.Proofs.Ytiblnccbeefdkaa.Hsa
open Go.RowKit Go.Proofs.YtiblnccbeefdkaaW.PrintWords Go.Proofs.Ytiblnccbeefdkaa.Mp Go.Proofs.Ytiblnccbeefdkaa.Hp
set_option linter.unusedVariables false
set_option linter.unusedSimpArgs false
/-- How these items lie. -/
def F : HForm ByteArray (Int × Int) where
  f := fun x => [.string x.key, .int .i64 x.rank.1, .int .i64 x.rank.2, .int .i64 x.came]
  sz := 4
  st := 80
  it := 82
  d := .string
  kv := (fun s : ByteArray => Value.string s)
  len := fun _ => rfl
  pos := by decide
  KV := kv_string
  ne := by decide
theorem put_item {W : World} {base g cap n : Nat} {L : List (It ByteArray (Int × Int))} (h : W.ownsRow base F.it F.sz (.slice (some ⟨g, 0, none⟩) n cap) n (flat F L)) (i : Nat) (y : It ByteArray (Int × Int)) (hi : i < L.length) :
    ((((W.setCell ⟨g, i * 4, none⟩ (.string y.key)).setCell ⟨g, i * 4 + 1, none⟩ (.int .i64 y.rank.1)).setCell ⟨g, i * 4 + 2, none⟩ (.int .i64 y.rank.2)).setCell ⟨g, i * 4 + 3, none⟩ (.int .i64 y.came)).ownsRow base F.it F.sz (.slice (some ⟨g, 0, none⟩) n cap) n (flat F (L.set i y)) := by
  have h0 := own_set h (i * 4) (.string y.key)
  have h1 := own_set h0 (i * 4 + 1) (.int .i64 y.rank.1)
  have h2 := own_set h1 (i * 4 + 2) (.int .i64 y.rank.2)
  have h3 := own_set h2 (i * 4 + 3) (.int .i64 y.came)
  have hl : (flat F L).length = L.length * 4 := flat_len F L
  have hlt : i * 4 + 4 ≤ L.length * 4 := by have := Nat.mul_le_mul_right 4 (show i + 1 ≤ L.length from hi); omega
  have e : (((((flat F L).set (i * 4) (.string y.key)).set (i * 4 + 1) (.int .i64 y.rank.1)).set (i * 4 + 2) (.int .i64 y.rank.2)).set (i * 4 + 3) (.int .i64 y.came)) = flat F (L.set i y) := by
    refine flat_set F L i y hi _ (by simp only [List.length_set]) ?_ ?_
    · intro k hk
      have hk : k < 4 := hk
      show _[i * 4 + k]? = _
      rcases (show k = 0 ∨ k = 1 ∨ k = 2 ∨ k = 3 by omega) with rfl | rfl | rfl | rfl
      · change _[i * 4]? = _
        rw [List.getElem?_set_ne (by omega), List.getElem?_set_ne (by omega), List.getElem?_set_ne (by omega), List.getElem?_set_self (by omega)]
        rfl
      · rw [List.getElem?_set_ne (by omega), List.getElem?_set_ne (by omega), List.getElem?_set_self (by rw [List.length_set]; omega)]
        rfl
      · rw [List.getElem?_set_ne (by omega), List.getElem?_set_self (by rw [List.length_set, List.length_set]; omega)]
        rfl
      · rw [List.getElem?_set_self (by rw [List.length_set, List.length_set, List.length_set]; omega)]
        rfl
    · intro m hm
      have hm : m < i * 4 ∨ (i + 1) * 4 ≤ m := hm
      rw [Nat.add_mul] at hm
      rw [List.getElem?_set_ne (by omega), List.getElem?_set_ne (by omega), List.getElem?_set_ne (by omega), List.getElem?_set_ne (by omega)]
  rw [e] at h3
  exact h3
theorem put_item' {W : World} {base g cap n : Nat} {L : List (It ByteArray (Int × Int))} (h : W.ownsRow base F.it F.sz (.slice (some ⟨g, 0, none⟩) n cap) n (flat F L)) (i : Nat) (y : It ByteArray (Int × Int)) (hi : i < L.length) (_ : True) :
    ((((W.setCell ⟨g, i * 4, none⟩ (.string y.key)).setCell ⟨g, i * 4 + 1, none⟩ (.int .i64 y.rank.1)).setCell ⟨g, i * 4 + 2, none⟩ (.int .i64 y.rank.2)).setCell ⟨g, i * 4 + 3, none⟩ (.int .i64 y.came)).drew.ownsRow base F.it F.sz (.slice (some ⟨g, 0, none⟩) n cap) n (flat F (L.set i y)) := put_item h i y hi
end Go.Proofs.Ytiblnccbeefdkaa.Hsa
