/- Plain words on graphs: lists of pairs. No program in sight. -/
namespace Go.Proofs.Ytngglgkemonibaa.G
set_option linter.unusedVariables false

def lt2 (x y : Int × Int) : Prop := x.1 < y.1 ∨ (x.1 = y.1 ∧ x.2 < y.2)
instance (x y : Int × Int) : Decidable (lt2 x y) := by unfold lt2; infer_instance
theorem lt2_trans {x y z : Int × Int} (h : lt2 x y) (k : lt2 y z) : lt2 x z := by unfold lt2 at *; omega
theorem lt2_irrefl (x : Int × Int) : ¬ lt2 x x := by unfold lt2; omega
theorem lt2_total (x y : Int × Int) : lt2 x y ∨ x = y ∨ lt2 y x := by
  unfold lt2
  rcases x with ⟨a, b⟩; rcases y with ⟨c, d⟩
  simp only [Prod.mk.injEq]; omega

/-- a right graph -/
structure Right (n : Int) (es : List (Int × Int)) : Prop where
  n0 : 0 ≤ n
  n1 : n ≤ 1000
  len : es.length ≤ 4000
  ends : ∀ e ∈ es, 0 ≤ e.1 ∧ e.1 < e.2 ∧ e.2 < n
  sorted : es.Pairwise lt2

theorem right_iff (n : Int) (es : List (Int × Int)) : Right n es ↔ 0 ≤ n ∧ n ≤ 1000 ∧ es.length ≤ 4000 ∧ (∀ e ∈ es, 0 ≤ e.1 ∧ e.1 < e.2 ∧ e.2 < n) ∧ es.Pairwise lt2 :=
  ⟨fun h => ⟨h.n0, h.n1, h.len, h.ends, h.sorted⟩, fun h => ⟨h.1, h.2.1, h.2.2.1, h.2.2.2.1, h.2.2.2.2⟩⟩
instance (n : Int) (es : List (Int × Int)) : Decidable (Right n es) := decidable_of_iff _ (right_iff n es).symm

/-- neighbours -/
def Adj (es : List (Int × Int)) (a b : Int) : Prop := (a, b) ∈ es ∨ (b, a) ∈ es
instance (es : List (Int × Int)) (a b : Int) : Decidable (Adj es a b) := by unfold Adj; infer_instance
theorem Adj.symm {es : List (Int × Int)} {a b : Int} (h : Adj es a b) : Adj es b a := h.elim .inr .inl
theorem Adj.ne {n : Int} {es : List (Int × Int)} {a b : Int} (hr : Right n es) (h : Adj es a b) : a ≠ b := by
  rcases h with h | h <;> have := hr.ends _ h <;> simp at this <;> omega
theorem Adj.range {n : Int} {es : List (Int × Int)} {a b : Int} (hr : Right n es) (h : Adj es a b) : (0 ≤ a ∧ a < n) ∧ (0 ≤ b ∧ b < n) := by
  rcases h with h | h <;> have := hr.ends _ h <;> simp at this <;> omega

/-- what a test from index i on asks -/
def okAt (n : Int) (es : List (Int × Int)) (j : Nat) : Prop :=
  (0 ≤ (es.getD j (0, 0)).1 ∧ (es.getD j (0, 0)).1 < (es.getD j (0, 0)).2 ∧ (es.getD j (0, 0)).2 < n) ∧ (0 < j → lt2 (es.getD (j - 1) (0, 0)) (es.getD j (0, 0)))
instance (n : Int) (es : List (Int × Int)) (j : Nat) : Decidable (okAt n es j) := by unfold okAt; infer_instance

theorem pairwise_of_next {es : List (Int × Int)} (h : ∀ j, j + 1 < es.length → lt2 (es.getD j (0, 0)) (es.getD (j + 1) (0, 0))) : es.Pairwise lt2 := by
  rw [List.pairwise_iff_getElem]
  intro i j hi hj hij
  induction j with
  | zero => omega
  | succ j ih =>
    have h1 := h j (by omega)
    rw [List.getD_eq_getElem?_getD, List.getD_eq_getElem?_getD, List.getElem?_eq_getElem hj, List.getElem?_eq_getElem (by omega : j < es.length)] at h1
    simp only [Option.getD_some] at h1
    rcases Nat.lt_or_ge i j with hlt | hge
    · exact lt2_trans (ih (by omega) hlt) h1
    · obtain rfl : i = j := by omega
      exact h1

theorem right_of_okAt {n : Int} {es : List (Int × Int)} (h0 : 0 ≤ n) (h1 : n ≤ 1000) (h2 : es.length ≤ 4000) (h : ∀ j, j < es.length → okAt n es j) : Right n es := by
  refine ⟨h0, h1, h2, fun e he => ?_, pairwise_of_next fun j hj => ?_⟩
  · obtain ⟨j, hj, rfl⟩ := List.mem_iff_getElem.1 he
    have := (h j hj).1
    rw [List.getD_eq_getElem?_getD, List.getElem?_eq_getElem hj] at this
    simpa using this
  · have := (h (j + 1) hj).2 (by omega)
    simpa using this
theorem okAt_of_right {n : Int} {es : List (Int × Int)} (hr : Right n es) (j : Nat) (hj : j < es.length) : okAt n es j := by
  unfold okAt
  rw [List.getD_eq_getElem?_getD, List.getElem?_eq_getElem hj]
  refine ⟨by simpa using hr.ends _ (List.getElem_mem hj), fun h => ?_⟩
  rw [List.getD_eq_getElem?_getD, List.getElem?_eq_getElem (by omega : j - 1 < es.length)]
  simp only [Option.getD_some]
  exact List.pairwise_iff_getElem.1 hr.sorted (j - 1) j (by omega) hj (by omega)
theorem right_iff_okAt {n : Int} {es : List (Int × Int)} (h0 : 0 ≤ n) (h1 : n ≤ 1000) (h2 : es.length ≤ 4000) : Right n es ↔ ∀ j, j < es.length → okAt n es j :=
  ⟨fun h j hj => okAt_of_right h j hj, right_of_okAt h0 h1 h2⟩

end Go.Proofs.Ytngglgkemonibaa.G
