/- RP: degrees, and the edges that are left, as a plain law. UE: the edges that are left are the document's. -/
import Derived.Test.YtnmocjhpbobahaaQ19
import Derived.Test.YtnmocjhpbobahaaQ36
import Derived.Test.YtnmocjhpbobahaaQ20
set_option linter.unusedVariables false
set_option linter.unusedSimpArgs false
set_option linter.unnecessarySimpa false
namespace Go.Proofs.Ytnmocjhpbobahaa.L
open Go Go.RowKit
set_option maxRecDepth 100000
/-! ### the edges that are left -/
theorem upF_mem (row : List Int) (v : Nat) : ∀ j, j ≤ row.length → ∀ e : Int × Int, e ∈ upF row v j ↔ e.1 = v ∧ (v : Int) < e.2 ∧ e.2 ∈ row.take j
  | 0, _, e => by simp [upF]
  | j + 1, hj, e => by
    have ih := upF_mem row v j (by omega) e
    rw [upF, List.take_succ_eq_append_getElem (by omega), ← nth_eq (by omega : j < row.length)]
    split
    · next h =>
      rw [List.mem_append, List.mem_singleton, ih, List.mem_append, List.mem_singleton]
      constructor
      · rintro (⟨a, b, c⟩ | rfl)
        · exact ⟨a, b, .inl c⟩
        · exact ⟨rfl, h, .inr rfl⟩
      · rintro ⟨a, b, c | c⟩
        · exact .inl ⟨a, b, c⟩
        · exact .inr (Prod.ext a c)
    · next h =>
      rw [ih, List.mem_append, List.mem_singleton]
      constructor
      · rintro ⟨a, b, c⟩; exact ⟨a, b, .inl c⟩
      · rintro ⟨a, b, c | c⟩
        · exact ⟨a, b, c⟩
        · rw [c] at b; exact absurd b h
theorem upF_rise {row : List Int} (hp : row.Pairwise (· < ·)) (v : Nat) : ∀ j, j ≤ row.length → (upF row v j).Pairwise ltE
  | 0, _ => List.Pairwise.nil
  | j + 1, hj => by
    have ih := upF_rise hp v j (by omega)
    rw [upF]
    split
    · rw [List.pairwise_append]
      refine ⟨ih, List.pairwise_singleton _ _, fun e he f hf => ?_⟩
      rw [List.mem_singleton] at hf
      subst hf
      obtain ⟨h1, _, h3⟩ := (upF_mem row v j (by omega) e).1 he
      refine .inr ⟨h1, ?_⟩
      obtain ⟨i, hi, h4⟩ := List.getElem_of_mem h3
      rw [List.length_take] at hi
      rw [List.getElem_take] at h4
      rw [nth_eq (by omega : j < row.length), ← h4]
      exact List.pairwise_iff_getElem.1 hp i j (by omega) (by omega) (by omega)
    · exact ih
theorem edgesF_mem {n : Nat} {r : Rst} (hr : RstI n r) : ∀ i, i ≤ n → ∀ e : Int × Int, e ∈ edgesF r i ↔ ∃ v : Nat, v < i ∧ e.1 = v ∧ (v : Int) < e.2 ∧ e.2 ∈ nthR r.near v
  | 0, _, e => by simp [edgesF]
  | i + 1, hi, e => by
    have ih := edgesF_mem hr i (by omega) e
    rw [edgesF]
    split
    · next hg =>
      rw [ih]
      constructor
      · rintro ⟨v, h1, h2⟩; exact ⟨v, by omega, h2⟩
      · rintro ⟨v, h1, h2, h3, h4⟩
        by_cases hv : v = i
        · subst hv; rw [hr.gon v (by omega) hg] at h4; cases h4
        · exact ⟨v, by omega, h2, h3, h4⟩
    · rw [List.mem_append, ih, upF_mem _ _ _ (Nat.le_refl _), List.take_length]
      constructor
      · rintro (⟨v, h1, h2⟩ | ⟨h1, h2, h3⟩)
        · exact ⟨v, by omega, h2⟩
        · exact ⟨i, by omega, h1, h2, h3⟩
      · rintro ⟨v, h1, h2, h3, h4⟩
        by_cases hv : v = i
        · subst hv; exact .inr ⟨h2, h3, h4⟩
        · exact .inl ⟨v, by omega, h2, h3, h4⟩
theorem edgesF_rise {n : Nat} {r : Rst} (hr : RstI n r) : ∀ i, i ≤ n → (edgesF r i).Pairwise ltE
  | 0, _ => List.Pairwise.nil
  | i + 1, hi => by
    have ih := edgesF_rise hr i (by omega)
    rw [edgesF]
    split
    · exact ih
    · rw [List.pairwise_append]
      refine ⟨ih, upF_rise (hr.rise i (by omega)) i _ (Nat.le_refl _), fun e he f hf => ?_⟩
      obtain ⟨v, h1, h2, _⟩ := (edgesF_mem hr i (by omega) e).1 he
      obtain ⟨h3, _⟩ := (upF_mem _ _ _ (Nat.le_refl _) f).1 hf
      left; omega
theorem edges_right {n : Nat} {r : Rst} (hr : RstI n r) (hn : n ≤ 60) : RightG n (edgesF r n) := by
  have hlen : (edgesF r n).length ≤ 4000 := by
    have h1 := edgesF_le hr.toRstOk n (Nat.le_refl _)
    have : n * n ≤ 60 * 60 := Nat.mul_le_mul hn hn
    omega
  refine ⟨⟨by omega, by omega, hlen⟩, fun i hi => ?_⟩
  have e1 : (edgesF r n).getD i (0, 0) = (edgesF r n)[i] := by simp [hi]
  rw [e1]
  refine ⟨?_, fun hp => ?_⟩
  · obtain ⟨v, h1, h2, h3, h4⟩ := (edgesF_mem hr n (Nat.le_refl _) _).1 (List.getElem_mem hi)
    have := hr.rng v h1 _ h4
    unfold okE
    omega
  · have e2 : (edgesF r n).getD (i - 1) (0, 0) = (edgesF r n)[i - 1] := by simp [show i - 1 < (edgesF r n).length by omega]
    rw [e2]
    exact List.pairwise_iff_getElem.1 (edgesF_rise hr n (Nat.le_refl _)) (i - 1) i (by omega) hi (by omega)
end Go.Proofs.Ytnmocjhpbobahaa.L
namespace Go.Proofs.Ytnmocjhpbobahaa.L
open Go Go.RowKit
set_option maxRecDepth 100000
theorem ltE_ext : ∀ {l m : List (Int × Int)}, l.Pairwise ltE → m.Pairwise ltE → (∀ x, x ∈ l ↔ x ∈ m) → l = m
  | [], [], _, _, _ => rfl
  | [], y :: m, _, _, h => absurd ((h y).2 List.mem_cons_self) List.not_mem_nil
  | x :: l, [], _, _, h => absurd ((h x).1 List.mem_cons_self) List.not_mem_nil
  | x :: l, y :: m, h1, h2, h => by
    rw [List.pairwise_cons] at h1 h2
    have irr : ∀ a b : Int × Int, ltE a b → ltE b a → False := fun a b p q => by unfold ltE at p q; omega
    have irr1 : ∀ a : Int × Int, ltE a a → False := fun a p => irr a a p p
    have hxy : x = y := by
      rcases List.mem_cons.1 ((h x).1 List.mem_cons_self) with e | e
      · exact e
      · rcases List.mem_cons.1 ((h y).2 List.mem_cons_self) with e' | e'
        · exact e'.symm
        · exact (irr _ _ (h2.1 x e) (h1.1 y e')).elim
    subst hxy
    congr 1
    refine ltE_ext h1.2 h2.2 fun z => ?_
    constructor
    · intro hz
      rcases List.mem_cons.1 ((h z).1 (List.mem_cons_of_mem _ hz)) with e | e
      · subst e; exact (irr1 _ (h1.1 _ hz)).elim
      · exact e
    · intro hz
      rcases List.mem_cons.1 ((h z).2 (List.mem_cons_of_mem _ hz)) with e | e
      · subst e; exact (irr1 _ (h2.1 _ hz)).elim
      · exact e
theorem upT_mem (t : Tbl) (v : Nat) : ∀ j (e : Int × Int), e ∈ upT t v j ↔ e.1 = v ∧ ∃ x : Nat, v < x ∧ x < v + 1 + j ∧ e.2 = x ∧ nthB t.inn x = true ∧ nthB (nthT t.adj v) x = true
  | 0, e => by
    simp only [upT, List.not_mem_nil, false_iff]
    rintro ⟨_, x, h1, h2, _⟩; omega
  | j + 1, e => by
    have ih := upT_mem t v j e
    rw [upT]
    split
    · next h =>
      rw [List.mem_append, List.mem_singleton, ih]
      constructor
      · rintro (⟨a, x, b1, b2, b3⟩ | rfl)
        · exact ⟨a, x, b1, by omega, b3⟩
        · exact ⟨rfl, v + 1 + j, by omega, by omega, rfl, h⟩
      · rintro ⟨a, x, b1, b2, b3, b4⟩
        by_cases q : x = v + 1 + j
        · subst q; exact .inr (Prod.ext a b3)
        · exact .inl ⟨a, x, b1, by omega, b3, b4⟩
    · next h =>
      rw [ih]
      constructor
      · rintro ⟨a, x, b1, b2, b3⟩; exact ⟨a, x, b1, by omega, b3⟩
      · rintro ⟨a, x, b1, b2, b3, b4⟩
        by_cases q : x = v + 1 + j
        · subst q; exact absurd b4 h
        · exact ⟨a, x, b1, by omega, b3, b4⟩
theorem upT_rise (t : Tbl) (v : Nat) : ∀ j, (upT t v j).Pairwise ltE
  | 0 => List.Pairwise.nil
  | j + 1 => by
    have ih := upT_rise t v j
    rw [upT]
    split
    · rw [List.pairwise_append]
      refine ⟨ih, List.pairwise_singleton _ _, fun e he f hf => ?_⟩
      rw [List.mem_singleton] at hf
      subst hf
      obtain ⟨a, x, b1, b2, b3, _⟩ := (upT_mem t v j e).1 he
      exact .inr ⟨a, by simp only; omega⟩
    · exact ih
theorem edgesT_mem (t : Tbl) (n : Nat) : ∀ i, i ≤ n → ∀ e : Int × Int, e ∈ edgesT t n i ↔ ∃ v : Nat, v < i ∧ nthB t.inn v = true ∧ e.1 = v ∧ ∃ x : Nat, v < x ∧ x < n ∧ e.2 = x ∧ nthB t.inn x = true ∧ nthB (nthT t.adj v) x = true
  | 0, _, e => by simp [edgesT]
  | i + 1, hi, e => by
    have ih := edgesT_mem t n i (by omega) e
    rw [edgesT]
    split
    · next h =>
      rw [List.mem_append, ih, upT_mem, show i + 1 + (n - (i + 1)) = n by omega]
      constructor
      · rintro (⟨v, a, b⟩ | ⟨a, b⟩)
        · exact ⟨v, by omega, b⟩
        · exact ⟨i, by omega, h, a, b⟩
      · rintro ⟨v, a, b, c⟩
        by_cases q : v = i
        · subst q; exact .inr c
        · exact .inl ⟨v, by omega, b, c⟩
    · next h =>
      rw [ih]
      constructor
      · rintro ⟨v, a, b⟩; exact ⟨v, by omega, b⟩
      · rintro ⟨v, a, b, c⟩
        by_cases q : v = i
        · subst q; exact absurd b h
        · exact ⟨v, by omega, b, c⟩
theorem edgesT_rise (t : Tbl) (n : Nat) : ∀ i, i ≤ n → (edgesT t n i).Pairwise ltE
  | 0, _ => List.Pairwise.nil
  | i + 1, hi => by
    have ih := edgesT_rise t n i (by omega)
    rw [edgesT]
    split
    · rw [List.pairwise_append]
      refine ⟨ih, upT_rise t i _, fun e he f hf => ?_⟩
      obtain ⟨v, a, _, b, _⟩ := (edgesT_mem t n i (by omega) e).1 he
      obtain ⟨c, _⟩ := (upT_mem t i _ f).1 hf
      left; omega
    · exact ih
theorem Agr.edges {n : Nat} {r : Rst} {t : Tbl} (h : Agr n r t) : edgesT t n n = edgesF r n := by
  refine ltE_ext (edgesT_rise t n n (Nat.le_refl _)) (edgesF_rise h.rst n (Nat.le_refl _)) fun e => ?_
  rw [edgesT_mem t n n (Nat.le_refl _), edgesF_mem h.rst n (Nat.le_refl _)]
  constructor
  · rintro ⟨v, a, b, c, x, d1, d2, d3, d4⟩
    have hg : nthB r.gone v = false := by
      have := h.inn v a
      rw [b] at this
      cases hh : nthB r.gone v with
      | false => rfl
      | true => rw [hh] at this; cases this
    exact ⟨v, a, c, by omega, by rw [d3]; exact (h.adj v a hg x d2).2 d4⟩
  · rintro ⟨v, a, c, d, m⟩
    have hg := h.rst.left a m
    have hr := h.rst.rng v a _ m
    obtain ⟨x, hx⟩ : ∃ x : Nat, e.2 = (x : Int) := ⟨e.2.toNat, by omega⟩
    rw [hx] at m d
    exact ⟨v, a, by rw [h.inn v a, hg]; rfl, c, x, by omega, by omega, hx, (h.adj v a hg x (by omega)).1 m⟩
end Go.Proofs.Ytnmocjhpbobahaa.L
