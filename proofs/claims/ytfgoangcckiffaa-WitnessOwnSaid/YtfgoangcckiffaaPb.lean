/- This text proves that no beginning of a witness's bytes and no such bytes with more behind them are a witness's: plain lists. -/
import Derived.Test.YtfgoangcckiffaaPr
namespace Go.Proofs.Ytfgoangcckiffaa.Pb
open Go.RowKit Go.Proofs.YtfgoangcckiffaaW.PrintWords Go.Proofs.YtfgoangcckiffaaW.PrintLast Go.Proofs.YtfgoangcckiffaaW.PrintMore
open Go.Proofs.Ytfgoangcckiffaa.Good Go.Proofs.Ytfgoangcckiffaa.Tk Go.Proofs.Ytfgoangcckiffaa.Dc Go.Proofs.Ytfgoangcckiffaa.Pd Go.Proofs.Ytfgoangcckiffaa.Pr
open Go.Proofs.Ytfgoangcckiffaa.Enc (digs digs_lo digs_hi digs_len b4 all encV good_ok idx_all)
set_option linter.unusedVariables false

theorem digs_cancel {n m : Nat} {r s : List Int} (hn : n < 34359738368) (hm : m < 34359738368) (h : digs n ++ r = digs m ++ s) : n = m ∧ r = s := by
  have h1 := numV_digs hn r
  have h2 := numV_digs hm s
  rw [h, h2] at h1
  simp only [Option.some.injEq, Prod.mk.injEq] at h1
  have e : n = m := by omega
  subst e
  exact ⟨rfl, List.append_cancel_left h⟩

theorem all_cancel : ∀ (es' es s : List Int), es'.length = es.length → (∀ e ∈ es, 0 ≤ e ∧ e < 34359738368) → (∀ e ∈ es', 0 ≤ e ∧ e < 34359738368) → all es' ++ s = all es → s = [] := by
  intro es'
  induction es' with
  | nil =>
    intro es s hl _ _ h
    cases es with
    | nil => simpa [all] using h
    | cons e es => simp at hl
  | cons e' es' ih =>
    intro es s hl he he' h
    cases es with
    | nil => simp at hl
    | cons e es =>
      have h0 := he e (by simp)
      have h0' := he' e' (by simp)
      have h1 : digs e'.toNat ++ (all es' ++ s) = digs e.toNat ++ all es := by simpa [all] using h
      obtain ⟨_, h2⟩ := digs_cancel (by omega) (by omega) h1
      exact ih es s (by simpa using hl) (fun x hx => he x (by simp [hx])) (fun x hx => he' x (by simp [hx])) h2

theorem enc_free {f t b f' t' b' : Int} {es es' s : List Int} (hg : goodV f t es = 0) (hg' : goodV f' t' es' = 0) (h : encV f' t' b' es' ++ s = encV f t b es) : s = [] := by
  obtain ⟨hl, f0, f1, t0, t1, hi⟩ := good_ok hg
  have he := idx_all es 0 (by omega) hi
  obtain ⟨hl', f0', f1', t0', t1', hi'⟩ := good_ok hg'
  have he' := idx_all es' 0 (by omega) hi'
  have h1 : digs f'.toNat ++ (digs t'.toNat ++ (b4 b' ++ (digs es'.length ++ (all es' ++ s)))) = digs f.toNat ++ (digs t.toNat ++ (b4 b ++ (digs es.length ++ all es))) := by
    simpa [encV] using h
  obtain ⟨_, h2⟩ := digs_cancel (by omega) (by omega) h1
  obtain ⟨_, h3⟩ := digs_cancel (by omega) (by omega) h2
  have h4 := (List.append_inj h3 (by simp [b4])).2
  obtain ⟨h5, h6⟩ := digs_cancel (by omega) (by omega) h4
  exact all_cancel es' es s h5 (fun e h => by have := he e h; omega) (fun e h => by have := he' e h; omega) h6

theorem dec_less {f t b : Int} {es : List Int} (hg : goodV f t es = 0) (h0 : 0 ≤ b) (h1 : b < 4294967296) {n : Nat} (hn : n < (encV f t b es).length) : decV ((encV f t b es).take n) = none := by
  cases hd : decV ((encV f t b es).take n) with
  | none => rfl
  | some x =>
    obtain ⟨f', t', b', es'⟩ := x
    have hb := enc_bytes hg h0 h1
    obtain ⟨e1, e2, _, _⟩ := enc_dec (fun x hx => hb x (List.mem_of_mem_take hx)) hd
    have h2 := List.take_append_drop n (encV f t b es)
    rw [e1] at h2
    have h3 := congrArg List.length (enc_free hg e2 h2)
    simp at h3
    omega

theorem dec_more {f t b : Int} {es : List Int} (hg : goodV f t es = 0) (h0 : 0 ≤ b) (h1 : b < 4294967296) {y : Int} (hy : 0 ≤ y ∧ y < 256) : decV (encV f t b es ++ [y]) = none := by
  cases hd : decV (encV f t b es ++ [y]) with
  | none => rfl
  | some x =>
    obtain ⟨f', t', b', es'⟩ := x
    have hb := enc_bytes hg h0 h1
    obtain ⟨e1, e2, _, _⟩ := enc_dec (fun x hx => by
      rcases List.mem_append.mp hx with h | h
      · exact hb x h
      · simp only [List.mem_singleton] at h; subst h; exact hy) hd
    have h3 := enc_free e2 hg e1
    simp at h3
end Go.Proofs.Ytfgoangcckiffaa.Pb
