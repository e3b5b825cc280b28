/- This text says what the heap's rising and sinking do to its list, over whatever order. -/
import Derived.Test.YtiocnkoogachkaaHq
namespace Go.Proofs.Ytiocnkoogachkaa.Hp
open Go.RowKit Go.Proofs.YtiocnkoogachkaaW.PrintWords Go.Proofs.Ytiocnkoogachkaa.Mp
variable {κ ρ : Type}

/-- An item rises. -/
inductive UpR (A : ρ → ρ → Bool → Prop) : List (It κ ρ) → Nat → List (It κ ρ) → Prop
  | top (L : List (It κ ρ)) : UpR A L 0 L
  | stop {L : List (It κ ρ)} {i : Nat} {x y : It κ ρ} : 0 < i → L[i]? = some x → L[(i - 1) / 2]? = some y → Ahead A x y false → UpR A L i L
  | go {L L' : List (It κ ρ)} {i : Nat} {x y : It κ ρ} : 0 < i → L[i]? = some x → L[(i - 1) / 2]? = some y → Ahead A x y true → UpR A (swp L i ((i - 1) / 2)) ((i - 1) / 2) L' → UpR A L i L'

/-- The lesser of a kid and what was the least so far. -/
def Pick (A : ρ → ρ → Bool → Prop) (L : List (It κ ρ)) (m k m' : Nat) : Prop :=
  (L.length ≤ k ∧ m' = m) ∨ ∃ x y r, L[k]? = some x ∧ L[m]? = some y ∧ Ahead A x y r ∧ m' = if r = true then k else m

/-- An item sinks. -/
inductive DownR (A : ρ → ρ → Bool → Prop) : List (It κ ρ) → Nat → List (It κ ρ) → Prop
  | stop {L : List (It κ ρ)} {i m : Nat} : Pick A L i (2 * i + 1) m → Pick A L m (2 * i + 2) i → DownR A L i L
  | go {L L' : List (It κ ρ)} {i m m' : Nat} : Pick A L i (2 * i + 1) m → Pick A L m (2 * i + 2) m' → m' ≠ i → DownR A (swp L i m') m' L' → DownR A L i L'

theorem Pick.cases {A : ρ → ρ → Bool → Prop} {L : List (It κ ρ)} {m k m' : Nat} (h : Pick A L m k m') : m' = m ∨ m' = k := by
  rcases h with ⟨_, rfl⟩ | ⟨x, y, r, _, _, _, rfl⟩
  · exact .inl rfl
  · split
    · exact .inr rfl
    · exact .inl rfl
theorem Pick.lt {A : ρ → ρ → Bool → Prop} {L : List (It κ ρ)} {m k m' : Nat} (h : Pick A L m k m') (hm : m < L.length) : m' < L.length := by
  rcases h with ⟨_, rfl⟩ | ⟨x, y, r, hx, _, _, rfl⟩
  · exact hm
  · split
    · exact (List.getElem?_eq_some_iff.1 hx).1
    · exact hm

section
variable [DecidableEq κ] {F : HForm κ ρ} {w w2 : World} {base hb pb : Nat} {lv sv : Value} {L : List (It κ ρ)} {c : Int} {S : Nat → Prop}
theorem Rep.low (R : Rep F w base hb pb lv sv L c) {k : Nat} (hk : k < base) : ¬ Mine hb pb sv k := by
  rintro (rfl | rfl | h)
  · have := R.hbase; omega
  · have := R.pbase; omega
  · rcases R.own.2 with ⟨hv, _⟩ | ⟨g, cap, cur, hv, hg, _⟩
    · rw [hv] at h; cases h
    · rw [hv] at h; cases h; exact absurd hk (by simpa using hg)
/-- A heap that nobody writes stays. -/
theorem Rep.kept (R : Rep F w base hb pb lv sv L c) (hk : Kp w w2 S) (hS : ∀ k, S k → ¬ Mine hb pb sv k) : Rep F w2 base hb pb lv sv L c := by
  refine ⟨blk_kp R.head hk (fun h => hS _ h (.inl rfl)), ?_, R.map.kept hk (fun h => hS _ h (.inr (.inl rfl))), R.nodup, R.hbase, R.pbase⟩
  rcases R.own.2 with ⟨hv, hn⟩ | ⟨g, cap, cur, rfl, hg⟩
  · exact ⟨R.own.1, .inl ⟨hv, hn⟩⟩
  · exact R.own.kept_ hk (fun h => hS _ h (.inr (.inr rfl)))
theorem Rep.size (R : Rep F w base hb pb lv sv L c) : base ≤ w.heap.size := Nat.le_trans R.hbase (Nat.le_of_lt (blk_lt R.head))
/-- What is kept below the heap's base. -/
theorem kept_low (R : Rep F w base hb pb lv sv L c) (hk : Kp w w2 (Mine hb pb sv)) {k : Nat} (h : k < base) : w2.heap[k]? = w.heap[k]? :=
  hk.2 k (Nat.lt_of_lt_of_le h R.size) (R.low h)
theorem Rep.slice (R : Rep F w base hb pb lv sv L c) (h : 0 < L.length) : ∃ g cap, sv = .slice (some ⟨g, 0, none⟩) L.length cap := by
  rcases R.own.2 with ⟨_, h⟩ | ⟨g, cap, _, h, _⟩
  · omega
  · exact ⟨g, cap, h⟩
end
end Go.Proofs.Ytiocnkoogachkaa.Hp
