/- Plain words on graphs: lists of pairs. No program in sight. What the printed functions on graphs answer, in plain words: Right (the program's and the reference's), Has of the reference. -/
import Derived.Test.YtngglgkemonibaaQ32
set_option linter.unusedVariables false
set_option linter.unusedSimpArgs false
set_option linter.unnecessarySimpa false
namespace Go.Proofs.Ytngglgkemonibaa.G
set_option linter.unusedVariables false

def lt2 (x y : Int × Int) : Prop := x.1 < y.1 ∨ (x.1 = y.1 ∧ x.2 < y.2)
instance (x y : Int × Int) : Decidable (lt2 x y) := by unfold lt2; infer_instance
theorem lt2_trans {x y z : Int × Int} (h : lt2 x y) (k : lt2 y z) : lt2 x z := by unfold lt2 at *; omega
theorem lt2_irrefl (x : Int × Int) : ¬ lt2 x x := by unfold lt2; omega
theorem lt2_total (x y : Int × Int) : lt2 x y ∨ x = y ∨ lt2 y x := by
  unfold lt2
  rcases x with ⟨a, b⟩; rcases y with ⟨c, d⟩
  simp only [Prod.mk.injEq]; omega

/-- a right graph -/
structure Right (n : Int) (es : List (Int × Int)) : Prop where
  n0 : 0 ≤ n
  n1 : n ≤ 1000
  len : es.length ≤ 4000
  ends : ∀ e ∈ es, 0 ≤ e.1 ∧ e.1 < e.2 ∧ e.2 < n
  sorted : es.Pairwise lt2

theorem right_iff (n : Int) (es : List (Int × Int)) : Right n es ↔ 0 ≤ n ∧ n ≤ 1000 ∧ es.length ≤ 4000 ∧ (∀ e ∈ es, 0 ≤ e.1 ∧ e.1 < e.2 ∧ e.2 < n) ∧ es.Pairwise lt2 :=
  ⟨fun h => ⟨h.n0, h.n1, h.len, h.ends, h.sorted⟩, fun h => ⟨h.1, h.2.1, h.2.2.1, h.2.2.2.1, h.2.2.2.2⟩⟩
instance (n : Int) (es : List (Int × Int)) : Decidable (Right n es) := decidable_of_iff _ (right_iff n es).symm

/-- neighbours -/
def Adj (es : List (Int × Int)) (a b : Int) : Prop := (a, b) ∈ es ∨ (b, a) ∈ es
instance (es : List (Int × Int)) (a b : Int) : Decidable (Adj es a b) := by unfold Adj; infer_instance
theorem Adj.symm {es : List (Int × Int)} {a b : Int} (h : Adj es a b) : Adj es b a := h.elim .inr .inl
theorem Adj.ne {n : Int} {es : List (Int × Int)} {a b : Int} (hr : Right n es) (h : Adj es a b) : a ≠ b := by
  rcases h with h | h <;> have := hr.ends _ h <;> simp at this <;> omega
theorem Adj.range {n : Int} {es : List (Int × Int)} {a b : Int} (hr : Right n es) (h : Adj es a b) : (0 ≤ a ∧ a < n) ∧ (0 ≤ b ∧ b < n) := by
  rcases h with h | h <;> have := hr.ends _ h <;> simp at this <;> omega

/-- what a test from index i on asks -/
def okAt (n : Int) (es : List (Int × Int)) (j : Nat) : Prop :=
  (0 ≤ (es.getD j (0, 0)).1 ∧ (es.getD j (0, 0)).1 < (es.getD j (0, 0)).2 ∧ (es.getD j (0, 0)).2 < n) ∧ (0 < j → lt2 (es.getD (j - 1) (0, 0)) (es.getD j (0, 0)))
instance (n : Int) (es : List (Int × Int)) (j : Nat) : Decidable (okAt n es j) := by unfold okAt; infer_instance

theorem pairwise_of_next {es : List (Int × Int)} (h : ∀ j, j + 1 < es.length → lt2 (es.getD j (0, 0)) (es.getD (j + 1) (0, 0))) : es.Pairwise lt2 := by
  rw [List.pairwise_iff_getElem]
  intro i j hi hj hij
  induction j with
  | zero => omega
  | succ j ih =>
    have h1 := h j (by omega)
    rw [List.getD_eq_getElem?_getD, List.getD_eq_getElem?_getD, List.getElem?_eq_getElem hj, List.getElem?_eq_getElem (by omega : j < es.length)] at h1
    simp only [Option.getD_some] at h1
    rcases Nat.lt_or_ge i j with hlt | hge
    · exact lt2_trans (ih (by omega) hlt) h1
    · obtain rfl : i = j := by omega
      exact h1

theorem right_of_okAt {n : Int} {es : List (Int × Int)} (h0 : 0 ≤ n) (h1 : n ≤ 1000) (h2 : es.length ≤ 4000) (h : ∀ j, j < es.length → okAt n es j) : Right n es := by
  refine ⟨h0, h1, h2, fun e he => ?_, pairwise_of_next fun j hj => ?_⟩
  · obtain ⟨j, hj, rfl⟩ := List.mem_iff_getElem.1 he
    have := (h j hj).1
    rw [List.getD_eq_getElem?_getD, List.getElem?_eq_getElem hj] at this
    simpa using this
  · have := (h (j + 1) hj).2 (by omega)
    simpa using this
theorem okAt_of_right {n : Int} {es : List (Int × Int)} (hr : Right n es) (j : Nat) (hj : j < es.length) : okAt n es j := by
  unfold okAt
  rw [List.getD_eq_getElem?_getD, List.getElem?_eq_getElem hj]
  refine ⟨by simpa using hr.ends _ (List.getElem_mem hj), fun h => ?_⟩
  rw [List.getD_eq_getElem?_getD, List.getElem?_eq_getElem (by omega : j - 1 < es.length)]
  simp only [Option.getD_some]
  exact List.pairwise_iff_getElem.1 hr.sorted (j - 1) j (by omega) hj (by omega)
theorem right_iff_okAt {n : Int} {es : List (Int × Int)} (h0 : 0 ≤ n) (h1 : n ≤ 1000) (h2 : es.length ≤ 4000) : Right n es ↔ ∀ j, j < es.length → okAt n es j :=
  ⟨fun h j hj => okAt_of_right h j hj, right_of_okAt h0 h1 h2⟩

end Go.Proofs.Ytngglgkemonibaa.G
namespace Go.Proofs.Ytngglgkemonibaa.P
open Go.RowKit Go.Proofs.YtngglgkemonibaaW.PrintWords Go.Proofs.Ytngglgkemonibaa.G
set_option linter.unusedVariables false
set_option linter.unusedSimpArgs false

/-- edges as pairs -/
def ed (l : List S46) : List (Int × Int) := l.map fun e => (e.f0, e.f1)
theorem ed_length (l : List S46) : (ed l).length = l.length := by simp [ed]
theorem ed_getD (l : List S46) (j : Nat) : (ed l).getD j (0, 0) = ((l.getD j z46).f0, (l.getD j z46).f1) := by
  simp only [ed, List.getD_eq_getElem?_getD, List.getElem?_map]
  cases l[j]? <;> rfl
theorem rd_ed (l : List S46) (i : Int) : ((rd_T46 l i).f0, (rd_T46 l i).f1) = (ed l).getD i.toNat (0, 0) := (ed_getD l i.toNat).symm

theorem compare_ev (k : Nat) (hk : 3 ≤ k) (a0 a1 b0 b1 : Int) : ∃ c, graph_compare.f k a0 a1 b0 b1 = some c ∧ (c ≥ 0 ↔ ¬ lt2 (a0, a1) (b0, b1)) := by
  obtain ⟨k, rfl⟩ : ∃ m, k = m + 3 := ⟨k - 3, by omega⟩
  have hC : ∀ x y : Int, cmp_Compare_int.f x y = some (if x < y then -1 else if x > y then 1 else 0) := by
    intro x y
    simp only [cmp_Compare_int.f, cmp_isNaN_int.f, Option.bind_some, bne_self_eq_false, Bool.false_eq_true, if_false]
    split
    · rfl
    · split <;> rfl
  have hO : ∀ x y : Int, cmp_Or_int.f (k + 3) [x, y] = some (if x = 0 then (if y = 0 then 0 else y) else x) := by
    intro x y
    have e0 : rd [x, y] 0 = x := rfl
    have e1 : rd [x, y] 1 = y := rfl
    have w1 : wrap64 (0 + 1) = 1 := by unfold wrap64; omega
    have w2 : wrap64 (1 + 1) = 2 := by unfold wrap64; omega
    simp only [cmp_Or_int.f, cmp_Or_int.l0, List.length_cons, List.length_nil, e0, w1, w2, e1]
    by_cases hx : x = 0
    · by_cases hy : y = 0 <;> simp [hx, hy, cmp_Or_int.l0]
    · simp [hx]
  refine ⟨_, (by simp only [graph_compare.f, hC, Option.bind_some, hO]; rfl), ?_⟩
  unfold lt2
  simp only
  repeat' split
  all_goals omega

theorem right_l0 (n : Int) (l : List S46) (hl : l.length ≤ 4000) (d : Nat) : ∀ (k i : Nat), i ≤ l.length → l.length - i = d → d + 4 ≤ k →
    ∃ r : Bool, graph_Right.l0 k l (l.length : Int) (i : Int) n l = some r ∧ (r = true ↔ ∀ j, i ≤ j → j < l.length → okAt n (ed l) j) := by
  induction d with
  | zero =>
    intro k i h0 hd hk
    obtain ⟨k, rfl⟩ : ∃ m, k = m + 1 := ⟨k - 1, by omega⟩
    simp only [graph_Right.l0]
    exact ⟨true, by rw [if_neg (by omega)], by simp; intro j h1 h2; omega⟩
  | succ d ih =>
    intro k i h0 hd hk
    obtain ⟨k, rfl⟩ : ∃ m, k = m + 1 := ⟨k - 1, by omega⟩
    simp only [graph_Right.l0]
    rw [if_pos (by omega), if_pos (by omega), if_pos (by omega)]
    obtain ⟨r, hr, hr2⟩ := ih k (i + 1) (by omega) (by omega) (by omega)
    have hw : wrap64 ((i : Int) + 1) = ((i + 1 : Nat) : Int) := by unfold wrap64; omega
    have hi := rd_ed l (i : Int)
    rw [Int.toNat_natCast] at hi
    generalize hx0 : (rd_T46 l (i : Int)).f0 = x0 at *
    generalize hx1 : (rd_T46 l (i : Int)).f1 = x1 at *
    rw [hw, hr]
    have no : ¬ okAt n (ed l) i → (false = true ↔ ∀ j, i ≤ j → j < l.length → okAt n (ed l) j) := fun h => ⟨fun h => by simp at h, fun H => absurd (H i (Nat.le_refl _) (by omega)) h⟩
    have yes : okAt n (ed l) i → (r = true ↔ ∀ j, i ≤ j → j < l.length → okAt n (ed l) j) := by
      intro ho
      rw [hr2]
      refine ⟨fun H j h1 h2 => ?_, fun H j h1 h2 => H j (by omega) h2⟩
      rcases Nat.lt_or_ge i j with h | h
      · exact H j h h2
      · obtain rfl : j = i := by omega
        exact ho
    by_cases c1 : x0 < 0
    · exact ⟨false, by rw [if_pos c1], no fun H => by have := H.1; rw [← hi] at this; simp only at this; omega⟩
    by_cases c2 : x0 ≥ x1
    · exact ⟨false, by rw [if_neg c1, if_pos c2], no fun H => by have := H.1; rw [← hi] at this; simp only at this; omega⟩
    by_cases c3 : x1 ≥ n
    · exact ⟨false, by rw [if_neg c1, if_neg c2, if_pos c3], no fun H => by have := H.1; rw [← hi] at this; simp only at this; omega⟩
    rw [if_neg c1, if_neg c2, if_neg c3]
    by_cases c4 : (i : Int) > 0
    · rw [if_pos c4]
      have hw2 : wrap64 ((i : Int) - 1) = ((i - 1 : Nat) : Int) := by unfold wrap64; omega
      rw [hw2, if_pos (by omega), if_pos (by omega)]
      have hp := rd_ed l ((i - 1 : Nat) : Int)
      rw [Int.toNat_natCast] at hp
      obtain ⟨c, hc, hc2⟩ := compare_ev k (by omega) (rd_T46 l ((i - 1 : Nat) : Int)).f0 (rd_T46 l ((i - 1 : Nat) : Int)).f1 x0 x1
      rw [hc]; simp only [Option.bind_some]
      rw [hp, hi] at hc2
      by_cases c5 : c ≥ 0
      · exact ⟨false, by rw [if_pos c5], no fun H => hc2.1 c5 (H.2 (by omega))⟩
      · exact ⟨r, by rw [if_neg c5], yes ⟨by rw [← hi]; simp only; omega, fun _ => Decidable.byContradiction fun h => c5 (hc2.2 h)⟩⟩
    · exact ⟨r, by rw [if_neg c4], yes ⟨by rw [← hi]; simp only; omega, fun h => by omega⟩⟩

theorem right_f (n : Int) (l : List S46) (k : Nat) (hk : 4006 ≤ k) : graph_Right.f k n l = some (decide (Right n (ed l))) := by
  obtain ⟨k, rfl⟩ : ∃ m, k = m + 1 := ⟨k - 1, by omega⟩
  unfold graph_Right.f
  by_cases c1 : n < 0
  · rw [if_pos c1, decide_eq_false (fun h => by have := h.n0; omega)]; simp [graph_Right.j0]
  rw [if_neg c1]
  by_cases c2 : n > 1000
  · rw [if_pos c2, decide_eq_false (fun h => by have := h.n1; omega)]; simp [graph_Right.j0]
  rw [if_neg c2]
  by_cases c3 : (l.length : Int) > 4000
  · rw [decide_eq_true c3, decide_eq_false (fun h => by have := h.len; rw [ed_length] at this; omega)]; simp [graph_Right.j0]
  rw [decide_eq_false c3]
  simp only [graph_Right.j0]
  rw [if_neg (by simp)]
  obtain ⟨r, hr, hr2⟩ := right_l0 n l (by omega) l.length k 0 (by omega) (by omega) (by omega)
  rw [show (0 : Int) = ((0 : Nat) : Int) from rfl, hr]
  congr 1
  rw [Bool.eq_iff_iff, hr2, decide_eq_true_iff, right_iff_okAt (by omega) (by omega) (by rw [ed_length]; omega), ed_length]
  exact ⟨fun H j hj => H j (Nat.zero_le _) hj, fun H j _ hj => H j hj⟩

end Go.Proofs.Ytngglgkemonibaa.P
