/- This text walks Next of a table of things of one kind (string). -/
import Derived.Test.YtiocnkoogachkaaTcs
namespace Go.Proofs.Ytiocnkoogachkaa.Ts
open Go.RowKit Go.Proofs.YtiocnkoogachkaaW.PrintWords Go.Proofs.Ytiocnkoogachkaa.Mp Go.Proofs.Ytiocnkoogachkaa.Hp Go.Proofs.Ytiocnkoogachkaa.Tg
set_option linter.unusedVariables false
set_option linter.unusedSimpArgs false
set_option maxHeartbeats 2000000 in
theorem next_st {w0 w : World} {tb hb pb : Nat} {Ps : List (It ByteArray Bool)} {m b : Nat} {held : Int} {S : Nat → Prop} (h : St PF w0 w tb hb pb LV Z m Ps b held S) (i : Int) :
    Calls Try.prog 30 #[.pointer (some ⟨tb, 0, none⟩), .int .i64 i] w fun e w' => ∃ r, e = .returned (.int .i64 r) ∧ IsNext Ps i r ∧ w = w' := by
  obtain ⟨sv, pv, L, c, M, P, _⟩ := h.ex
  have hsm := h.small
  have hle := P.le
  obtain ⟨a, cap, rfl⟩ := M.slice
  have c1 : w.cell? ⟨tb, 1, none⟩ = some (.slice a Ps.length cap) := (blk_cell M.head 1).trans rfl
  have HM := Aside0.mk M
  clear h P M
  have hx1 : (if i < 1 then (1 : Int) else i) = max i 1 := by omega
  have hx2 : (if (1 : Int) < i then i else (1 : Int)) = max i 1 := by omega
  obtain ⟨s, hs⟩ : ∃ s : Nat, max i 1 = (s : Int) + 1 := ⟨(max i 1 - 1).toNat, by omega⟩
  have HS := Aside0.mk hs
  rw [hs] at hx1 hx2
  clear hs
  go_enter Try.func30, Try.ntmps30
  go_wp2_with fail
  go_loopw [1] (fun kv wr => ∃ q : Nat, wr = w ∧ kv = .int .i64 ((q : Int) + 1) ∧ s ≤ q ∧ (q ≤ Ps.length ∨ q = s) ∧ Aside0 (∀ (j : Nat) (p : It ByteArray Bool), s ≤ j → j < q → Ps[j]? = some p → p.rank = false)) (fun kv _ => Ps.length + 1 - (intOf kv).toNat)
  case atStart => exact ⟨s, rfl, rfl, Nat.le_refl _, .inr rfl, ⟨fun j p h1 h2 => by omega⟩⟩
  case round =>
    obtain ⟨q, rfl, rfl, hsq, hq, HQ⟩ := hrel
    by_cases hlt : q < Ps.length
    · have t1 : decide ((q : Int) + 1 ≤ (Ps.length : Int)) = true := decide_eq_true (by omega)
      obtain ⟨p, hp⟩ : ∃ p, Ps[q]? = some p := ⟨_, List.getElem?_eq_getElem hlt⟩
      have hM := HM.out
      obtain ⟨g, cap3, he⟩ := hM.slice' (by omega)
      obtain ⟨rfl, rfl⟩ : a = some ⟨g, 0, none⟩ ∧ cap = cap3 := by simpa using he
      have e1 : wr.cell? ⟨g, q * 2 + 1, none⟩ = some (.bool p.rank) := hM.cellK (k := 1) hp (by decide) rfl
      have HPP := Aside0.mk hp
      clear hM he hp
      cases hr : p.rank with
      | true =>
        have HR := Aside0.mk hr
        rw [hr] at e1
        clear hr
        go_wp2
        go_ret
        exact ⟨_, rfl, .inl ⟨q, p, rfl, by have := HS.out; omega, HPP.out, HR.out, fun j p2 h1 h2 h3 => HQ.out j p2 (by have := HS.out; omega) h2 h3⟩, rfl⟩
      | false =>
        have HQ2 : Aside0 (∀ (j : Nat) (p : It ByteArray Bool), s ≤ j → j < q + 1 → Ps[j]? = some p → p.rank = false) := ⟨fun j p2 h1 h2 h3 => by
          rcases Nat.lt_or_ge j q with h4 | h4
          · exact HQ.out j p2 h1 h4 h3
          · obtain rfl : j = q := by omega
            rw [HPP.out] at h3
            cases h3
            exact hr⟩
        rw [hr] at e1
        clear hr HQ
        go_wp2
        go_roundw
        case measure => simp [intOf]; omega
        case rel => exact ⟨q + 1, trivial, by go_num, by omega, .inl (by omega), HQ2⟩
    · have t1 : decide ((q : Int) + 1 ≤ (Ps.length : Int)) = false := decide_eq_false (by omega)
      go_wp2
      go_ret
      exact ⟨_, rfl, .inr ⟨rfl, fun j p h1 h2 => HQ.out j p (by have := HS.out; omega) (by have := (List.getElem?_eq_some_iff.1 h2).1; omega) h2⟩, rfl⟩
end Go.Proofs.Ytiocnkoogachkaa.Ts
