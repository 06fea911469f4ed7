/- UR: the code's rows and the document's table say the same. -/
import Derived.Test.YtnmocjhpbobahaaQ13
import Derived.Test.YtnmocjhpbobahaaQ14
import Derived.Test.YtnmocjhpbobahaaQ19
set_option linter.unusedVariables false
set_option linter.unusedSimpArgs false
set_option linter.unnecessarySimpa false
namespace Go.Proofs.Ytnmocjhpbobahaa.L
open Go Go.RowKit
set_option maxRecDepth 100000
theorem nearT_mem (t : Tbl) (v : Nat) : ∀ (i : Nat) (x : Int), x ∈ nearT t v i ↔ ∃ k : Nat, k < i ∧ x = k ∧ nthB t.inn k = true ∧ nthB (nthT t.adj v) k = true
  | 0, x => by simp [nearT]
  | i + 1, x => by
    have ih := nearT_mem t v i x
    rw [nearT]
    split
    · next h =>
      rw [List.mem_append, List.mem_singleton, ih]
      constructor
      · rintro (⟨k, h1, h2⟩ | rfl)
        · exact ⟨k, by omega, h2⟩
        · exact ⟨i, by omega, rfl, h⟩
      · rintro ⟨k, h1, h2, h3⟩
        by_cases e : k = i
        · subst e; exact .inr h2
        · exact .inl ⟨k, by omega, h2, h3⟩
    · next h =>
      rw [ih]
      constructor
      · rintro ⟨k, h1, h2⟩; exact ⟨k, by omega, h2⟩
      · rintro ⟨k, h1, h2, h3⟩
        by_cases e : k = i
        · subst e; exact absurd h3 h
        · exact ⟨k, by omega, h2, h3⟩
theorem nearT_rise (t : Tbl) (v : Nat) : ∀ i, (nearT t v i).Pairwise (· < ·)
  | 0 => List.Pairwise.nil
  | i + 1 => by
    have ih := nearT_rise t v i
    rw [nearT]
    split
    · rw [List.pairwise_append]
      refine ⟨ih, List.pairwise_singleton _ _, fun a ha b hb => ?_⟩
      rw [List.mem_singleton] at hb
      obtain ⟨k, h1, h2, _⟩ := (nearT_mem t v i a).1 ha
      omega
    · exact ih
structure Agr (n : Nat) (r : Rst) (t : Tbl) : Prop where
  rst : RstI n r
  tb : TbOk n t
  mark : t.mark = r.mark
  inn : ∀ v, v < n → nthB t.inn v = !(nthB r.gone v)
  adj : ∀ v, v < n → nthB r.gone v = false → ∀ x : Nat, x < n → ((x : Int) ∈ nthR r.near v ↔ nthB t.inn x = true ∧ nthB (nthT t.adj v) x = true)
theorem Agr.near {n : Nat} {r : Rst} {t : Tbl} (h : Agr n r t) {v : Nat} (hv : v < n) (hg : nthB r.gone v = false) : nearT t v n = nthR r.near v := by
  refine rise_ext (nearT_rise t v n) (h.rst.rise v hv) fun x => ?_
  rw [nearT_mem]
  constructor
  · rintro ⟨k, h1, rfl, h2⟩; exact (h.adj v hv hg k h1).2 h2
  · intro hx
    have hr := h.rst.rng v hv x hx
    obtain ⟨k, rfl⟩ : ∃ k : Nat, x = (k : Int) := ⟨x.toNat, by omega⟩
    exact ⟨k, by omega, rfl, (h.adj v hv hg k (by omega)).1 hx⟩
theorem Agr.cnt_at {n : Nat} {r : Rst} {t : Tbl} (h : Agr n r t) : ∀ i, i ≤ n → cntT t i = leftN r.gone i
  | 0, _ => rfl
  | i + 1, hi => by
    have ih := h.cnt_at i (by omega)
    have hb := h.inn i (by omega)
    rw [cntT, leftN, hb]
    cases nthB r.gone i with
    | true => simpa using ih
    | false => simp [ih]
theorem Agr.count {n : Nat} {r : Rst} {t : Tbl} (h : Agr n r t) : cntT t n = r.count := by
  rw [h.cnt_at n (Nat.le_refl _), h.rst.cnt]
theorem Agr.inner {n : Nat} {r : Rst} {t : Tbl} (h : Agr n r t) {v : Nat} (hv : v < n) (hg : nthB r.gone v = false) : innT t v = innB r v := by
  unfold innT innB
  rw [h.tb.inn, h.near hv hg, h.mark]
theorem Agr.mks {n : Nat} {r : Rst} {t : Tbl} (h : Agr n r t) (m : Int) : ∀ i, i ≤ n → mkT t m i = cntM r m i
  | 0, _ => rfl
  | i + 1, hi => by
    have ih := h.mks m i (by omega)
    have hb := h.inn i (by omega)
    rw [mkT, cntM, hb, h.mark]
    cases nthB r.gone i with
    | true => simpa using ih
    | false => simp [ih]
theorem Agr.left {n : Nat} {r : Rst} {t : Tbl} (h : Agr n r t) : ∀ i, i ≤ n → leftT t i = leftF r i ∧ marksT t i = marksF r i
  | 0, _ => ⟨rfl, rfl⟩
  | i + 1, hi => by
    obtain ⟨h1, h2⟩ := h.left i (by omega)
    have hb := h.inn i (by omega)
    rw [leftT, leftF, marksT, marksF, hb, h.mark]
    cases nthB r.gone i with
    | true => simpa using ⟨h1, h2⟩
    | false => simp [h1, h2]
end Go.Proofs.Ytnmocjhpbobahaa.L
