/- PRt: the least of the shortest paths, in plain Lean: what the code's way (backward from b, then greedily) and the document's (longer and longer paths from a) both find. PRt2: the least of the shortest paths: the document's way (longer and longer paths from a). PRt3: the search from b on: a queue, and how far it is. PRt4: the search from b on, as rows hold it. -/
import Derived.Test.YtngglgkemonibaaQ17
import Derived.Test.YtngglgkemonibaaQ20
import Derived.Test.YtngglgkemonibaaQ21
set_option linter.unusedVariables false
set_option linter.unusedSimpArgs false
set_option linter.unnecessarySimpa false
namespace Go.Proofs.Ytngglgkemonibaa.L
/-! ### the order of rows -/
theorem lexLt_irr : ∀ a : List Int, lexLt a a = false
  | [] => rfl
  | x :: a => by simp [lexLt, lexLt_irr a]
theorem lexLt_tri : ∀ {a b : List Int}, a.length = b.length → lexLt a b = false → lexLt b a = false → a = b
  | [], [], _, _, _ => rfl
  | x :: a, y :: b, hl, h1, h2 => by
    simp only [lexLt] at h1 h2
    by_cases hxy : x = y
    · subst hxy
      simp only [if_true] at h1 h2
      rw [lexLt_tri (by simpa using hl) h1 h2]
    · rw [if_neg hxy] at h1
      rw [if_neg (fun e => hxy e.symm)] at h2
      simp only [decide_eq_false_iff_not] at h1 h2
      omega
/-- a is not behind b. -/
def le (a b : List Int) : Prop := lexLt b a = false
theorem le_refl (a : List Int) : le a a := lexLt_irr a
theorem le_trans : ∀ {a b c : List Int}, a.length = b.length → b.length = c.length → le a b → le b c → le a c
  | [], [], [], _, _, _, _ => rfl
  | x :: a, y :: b, z :: c, h1, h2, h3, h4 => by
    simp only [le, lexLt] at h3 h4 ⊢
    by_cases e1 : y = x
    · subst e1
      rw [if_pos rfl] at h3
      by_cases e2 : z = y
      · subst e2
        rw [if_pos rfl] at h4 ⊢
        exact le_trans (by simpa using h1) (by simpa using h2) h3 h4
      · rw [if_neg e2] at h4 ⊢; exact h4
    · rw [if_neg e1] at h3
      simp only [decide_eq_false_iff_not] at h3
      by_cases e2 : z = y
      · subst e2
        rw [if_neg e1]; simp only [decide_eq_false_iff_not]; exact h3
      · rw [if_neg e2] at h4
        simp only [decide_eq_false_iff_not] at h4
        rw [if_neg (by omega)]
        simp only [decide_eq_false_iff_not]; omega
theorem le_cons {x : Int} {a b : List Int} (h : le a b) : le (x :: a) (x :: b) := by simpa [le, lexLt] using h
theorem le_of_lt {x y : Int} {a b : List Int} (h : x < y) : le (x :: a) (y :: b) := by
  simp only [le, lexLt]
  rw [if_neg (by omega)]
  simp only [decide_eq_false_iff_not]; omega
theorem le_snoc {y : Int} : ∀ {a b : List Int}, a.length = b.length → le a b → le (a ++ [y]) (b ++ [y])
  | [], [], _, _ => le_refl _
  | x :: a, z :: b, hl, h => by
    simp only [le, lexLt, List.cons_append] at h ⊢
    by_cases e : z = x
    · subst e
      rw [if_pos rfl] at h ⊢
      exact le_snoc (by simpa using hl) h
    · rw [if_neg e] at h ⊢; exact h
/-! ### paths -/
def adj (es : List (Int × Int)) (u v : Int) : Prop := (u, v) ∈ es ∨ (v, u) ∈ es
theorem adj.symm {es : List (Int × Int)} {u v : Int} (h : adj es u v) : adj es v u := Or.symm h
/-- p goes from a to b by edges, and keeps away from 'away'. -/
def Pth (es : List (Int × Int)) (away : List Int) (b : Int) : Int → List Int → Prop
  | _, [] => False
  | a, [x] => x = a ∧ a = b ∧ a ∉ away
  | a, x :: y :: l => x = a ∧ a ∉ away ∧ adj es a y ∧ Pth es away b y (y :: l)
variable {es : List (Int × Int)} {away : List Int} {a b : Int}
theorem Pth.ne {p : List Int} (h : Pth es away b a p) : p ≠ [] := by
  cases p with
  | nil => exact h.elim
  | cons _ _ => simp
theorem Pth.pos {p : List Int} (h : Pth es away b a p) : 0 < p.length := List.length_pos_iff.2 h.ne
theorem Pth.first {p : List Int} (h : Pth es away b a p) : a ∉ away := by
  match p, h with
  | [x], h => exact h.2.2
  | x :: y :: l, h => exact h.2.1
theorem Pth.one (h : b ∉ away) : Pth es away b b [b] := ⟨rfl, rfl, h⟩
theorem Pth.cons {v : Int} {p : List Int} (h : Pth es away b v p) (ha : a ∉ away) (he : adj es a v) : Pth es away b a (a :: p) := by
  match p, h with
  | [x], h => obtain ⟨rfl, h2⟩ := h; exact ⟨rfl, ha, he, rfl, h2⟩
  | x :: y :: l, h => obtain ⟨rfl, h2⟩ := h; exact ⟨rfl, ha, he, rfl, h2⟩
/-- One alone; or one more, ahead. -/
theorem Pth.cases {p : List Int} (h : Pth es away b a p) : (p = [a] ∧ a = b) ∨ ∃ v l, p = a :: l ∧ adj es a v ∧ Pth es away b v l := by
  match p, h with
  | [x], h => obtain ⟨rfl, h2, _⟩ := h; exact .inl ⟨rfl, h2⟩
  | x :: y :: l, h => obtain ⟨rfl, _, h3, h4⟩ := h; exact .inr ⟨y, y :: l, rfl, h3, h4⟩
theorem Pth.snoc {c : Int} (hc : c ∉ away) (he : adj es b c) : ∀ {p : List Int} {a : Int}, Pth es away b a p → Pth es away c a (p ++ [c])
  | [x], a, h => by obtain ⟨rfl, rfl, h3⟩ := h; exact ⟨rfl, h3, he, rfl, rfl, hc⟩
  | x :: y :: l, a, h => by obtain ⟨rfl, h2, h3, h4⟩ := h; exact ⟨rfl, h2, h3, Pth.snoc hc he h4⟩
theorem Pth.last : ∀ {p : List Int} {a : Int}, Pth es away b a p → b ∉ away
  | [x], a, h => by obtain ⟨rfl, rfl, h3⟩ := h; exact h3
  | x :: y :: l, a, h => h.2.2.2.last
/-- One alone; or one more, behind. -/
theorem Pth.back : ∀ {p : List Int} {a : Int}, Pth es away b a p → (p = [a] ∧ a = b) ∨ ∃ v l, p = l ++ [b] ∧ adj es v b ∧ Pth es away v a l
  | [x], a, h => by obtain ⟨rfl, h2, _⟩ := h; exact .inl ⟨rfl, h2⟩
  | x :: y :: l, a, h => by
    obtain ⟨rfl, h2, h3, h4⟩ := h
    rcases h4.back with ⟨e, rfl⟩ | ⟨v, l', e, e2, e3⟩
    · simp only [List.cons.injEq, true_and] at e
      subst e
      exact .inr ⟨x, [x], rfl, h3, rfl, rfl, h2⟩
    · exact .inr ⟨v, x :: l', by rw [e]; rfl, e2, e3.cons h2 h3⟩
/-- The least of the shortest. -/
def IsRoute (es : List (Int × Int)) (away : List Int) (a b : Int) (p : List Int) : Prop :=
  Pth es away b a p ∧ ∀ q, Pth es away b a q → p.length < q.length ∨ (p.length = q.length ∧ le p q)
theorem IsRoute.unique {p q : List Int} (h : IsRoute es away a b p) (k : IsRoute es away a b q) : p = q := by
  rcases h.2 q k.1 with h1 | ⟨h1, h2⟩
  · rcases k.2 p h.1 with k1 | ⟨k1, _⟩ <;> omega
  · rcases k.2 p h.1 with k1 | ⟨_, k2⟩
    · omega
    · exact lexLt_tri h1 k2 h2
/-- What both tell. -/
def IsAns (es : List (Int × Int)) (away : List Int) (a b : Int) (p : List Int) : Prop := IsRoute es away a b p ∨ (p = [] ∧ ∀ q, ¬ Pth es away b a q)
theorem IsAns.unique {p q : List Int} (h : IsAns es away a b p) (k : IsAns es away a b q) : p = q := by
  rcases h with h | ⟨rfl, h⟩ <;> rcases k with k | ⟨rfl, k⟩
  · exact h.unique k
  · exact absurd h.1 (k p)
  · exact absurd k.1 (h q)
  · rfl
/-! ### the code's way: how far it is from b -/
/-- What is known when a is found: d v is one more than how far v is from b; 0: not known. All that stands ahead of K is known in full. -/
structure Far (es : List (Int × Int)) (away : List Int) (b : Int) (d : Int → Nat) (K : Nat) : Prop where
  start : d b = 1
  only : ∀ v, d v = 1 → v = b
  free : ∀ v, 0 < d v → v ∉ away
  prev : ∀ v, 1 < d v → ∃ x, adj es v x ∧ d x + 1 = d v
  full : ∀ u v, 0 < d u → d u < K → adj es u v → v ∉ away → 0 < d v ∧ d v ≤ d u + 1
theorem Far.below {d : Int → Nat} {K : Nat} (h : Far es away b d K) : ∀ (q : List Int) (v : Int), Pth es away b v q → q.length ≤ K → 0 < d v ∧ d v ≤ q.length
  | [], v, hq, _ => hq.elim
  | [x], v, hq, _ => by
    obtain ⟨rfl, rfl, _⟩ := hq
    rw [h.start]; simp
  | x :: y :: l, v, hq, hK => by
    obtain ⟨rfl, h2, h3, h4⟩ := hq
    simp only [List.length_cons] at hK ⊢
    have ih := h.below (y :: l) y h4 (by simp; omega)
    simp only [List.length_cons] at ih
    have := h.full y x ih.1 (by omega) h3.symm h2
    omega
/-- Paths are no shorter. -/
theorem Far.short {d : Int → Nat} {K : Nat} (h : Far es away b d K) {v : Int} (hK : d v ≤ K + 1) {q : List Int} (hq : Pth es away b v q) : d v ≤ q.length := by
  rcases Nat.lt_or_ge K q.length with h1 | h1
  · omega
  · exact (h.below q v hq h1).2
/-- p is the best from v on. -/
def Best (es : List (Int × Int)) (away : List Int) (b : Int) (d : Int → Nat) (v : Int) (p : List Int) : Prop := Pth es away b v p ∧ p.length = d v ∧ ∀ q, Pth es away b v q → q.length = d v → le p q
theorem Far.best_end {d : Int → Nat} {K : Nat} (h : Far es away b d K) : Best es away b d b [b] := by
  refine ⟨Pth.one (h.free b (by rw [h.start]; omega)), by rw [h.start]; rfl, fun q hq hl => ?_⟩
  rw [h.start] at hl
  rcases hq.cases with ⟨rfl, _⟩ | ⟨v, l, rfl, _, h2⟩
  · exact le_refl _
  · have := h2.pos
    simp only [List.length_cons] at hl
    omega
theorem Far.best_step {d : Int → Nat} {K : Nat} (h : Far es away b d K) {v x : Int} (hv : 1 < d v) (hK : d v ≤ K + 1) (hx : adj es v x) (hd : d x + 1 = d v) (hl : ∀ y, adj es v y → d y + 1 = d v → x ≤ y) {p : List Int} (hp : Best es away b d x p) : Best es away b d v (v :: p) := by
  obtain ⟨p1, p2, p3⟩ := hp
  refine ⟨p1.cons (h.free v (by omega)) hx, by simp only [List.length_cons]; omega, fun q hq hql => ?_⟩
  rcases hq.cases with ⟨rfl, _⟩ | ⟨y, l, rfl, h1, h2⟩
  · simp only [List.length_cons, List.length_nil] at hql; omega
  · simp only [List.length_cons] at hql
    have hy := h.below l y h2 (by omega)
    have hdy : d y + 1 = d v := by
      rcases Nat.lt_or_ge (d y + 1) (d v) with h3 | h3
      · have := h.full y v hy.1 (by omega) h1.symm (h.free v (by omega))
        omega
      · omega
    have hxy := hl y h1 hdy
    refine le_cons ?_
    rcases Int.lt_or_eq_of_le hxy with hlt | rfl
    · match p, p1, l, h2 with
      | x' :: p', p1, y' :: l', h2 =>
        have e1 : x' = x := by rcases p1.cases with ⟨e, _⟩ | ⟨_, _, e, _⟩ <;> simp_all
        have e2 : y' = y := by rcases h2.cases with ⟨e, _⟩ | ⟨_, _, e, _⟩ <;> simp_all
        subst e1 e2
        exact le_of_lt hlt
      | [], p1, _, _ => exact p1.elim
      | _ :: _, _, [], h2 => exact h2.elim
    · exact p3 l h2 (by omega)
theorem Far.best_route {d : Int → Nat} {K : Nat} (h : Far es away b d K) (hK : d a ≤ K + 1) {p : List Int} (hp : Best es away b d a p) : IsRoute es away a b p := by
  refine ⟨hp.1, fun q hq => ?_⟩
  have := h.short hK hq
  rcases Nat.lt_or_ge p.length q.length with h1 | h1
  · exact .inl h1
  · have h2 := hp.2.1
    exact .inr ⟨by omega, hp.2.2 q hq (by omega)⟩
/-- Where all is known, and a is not: there is none. -/
theorem no_route {d : Int → Nat} (h : ∀ K, Far es away b d K) (ha : d a = 0) (q : List Int) : ¬ Pth es away b a q := fun hq => by
  have := (h q.length).below q a hq (Nat.le_refl _)
  omega
end Go.Proofs.Ytngglgkemonibaa.L
namespace Go.Proofs.Ytngglgkemonibaa.L
variable {es : List (Int × Int)} {away : List Int} {a b : Int}
/-- What is known after paths of k vertices: the best to each vertex, where there is one so short. -/
structure Lev (es : List (Int × Int)) (away : List Int) (a : Int) (best : Int → List Int) (k : Nat) : Prop where
  sound : ∀ v, best v ≠ [] → IsRoute es away a v (best v) ∧ (best v).length ≤ k
  full : ∀ v q, Pth es away v a q → q.length ≤ k → best v ≠ []
theorem Lev.start {best : Int → List Int} (ha : a ∉ away) (h1 : best a = [a]) (h2 : ∀ v, v ≠ a → best v = []) : Lev es away a best 1 := by
  refine ⟨fun v hv => ?_, fun v q hq hl => ?_⟩
  · by_cases hva : v = a
    · subst hva
      rw [h1]
      refine ⟨⟨Pth.one ha, fun q hq => ?_⟩, Nat.le_refl _⟩
      rcases hq.cases with ⟨rfl, _⟩ | ⟨y, l, rfl, _, h3⟩
      · exact .inr ⟨rfl, le_refl _⟩
      · have := h3.pos
        exact .inl (by simp only [List.length_cons, List.length_nil]; omega)
    · exact absurd (h2 v hva) hv
  · rcases hq.cases with ⟨rfl, rfl⟩ | ⟨y, l, rfl, _, h3⟩
    · rw [h1]; simp
    · have := h3.pos
      simp only [List.length_cons] at hl
      omega
/-- A path to y that is one longer than the best to x. -/
def Cand (best : Int → List Int) (away : List Int) (k : Nat) (D : List (Int × Int)) (y : Int) (p : List Int) : Prop :=
  ∃ x, (x, y) ∈ D ∧ ((best x).length = k ∧ best y = [] ∧ y ∉ away) ∧ p = best x ++ [y]
def FoundOk (best : Int → List Int) (away : List Int) (k : Nat) (D : List (Int × Int)) (found : Int → List Int) : Prop :=
  ∀ y, (found y = [] ∧ ∀ p, ¬ Cand best away k D y p) ∨ (Cand best away k D y (found y) ∧ ∀ p, Cand best away k D y p → le (found y) p)
theorem Cand.length {best : Int → List Int} {k : Nat} {D : List (Int × Int)} {y : Int} {p : List Int} (h : Cand best away k D y p) : p.length = k + 1 := by
  obtain ⟨x, _, ⟨h1, _⟩, rfl⟩ := h
  simp [h1]
theorem Cand.ne {best : Int → List Int} {k : Nat} {D : List (Int × Int)} {y : Int} {p : List Int} (h : Cand best away k D y p) : p ≠ [] := by
  have := h.length
  intro e; subst e; simp at this
theorem FoundOk.start {best : Int → List Int} {k : Nat} {found : Int → List Int} (h : ∀ y, found y = []) : FoundOk best away k [] found := fun y =>
  .inl ⟨h y, by rintro p ⟨x, hx, _⟩; simp at hx⟩
theorem cand_snoc {best : Int → List Int} {k : Nat} {D : List (Int × Int)} {x y z : Int} {p : List Int} : Cand best away k (D ++ [(x, y)]) z p ↔ Cand best away k D z p ∨ (z = y ∧ ((best x).length = k ∧ best y = [] ∧ y ∉ away) ∧ p = best x ++ [y]) := by
  constructor
  · rintro ⟨w, hw, h1, h2⟩
    rcases List.mem_append.1 hw with hw | hw
    · exact .inl ⟨w, hw, h1, h2⟩
    · simp only [List.mem_singleton, Prod.mk.injEq] at hw
      obtain ⟨rfl, rfl⟩ := hw
      exact .inr ⟨rfl, h1, h2⟩
  · rintro (⟨w, hw, h1, h2⟩ | ⟨rfl, h1, h2⟩)
    · exact ⟨w, by simp [hw], h1, h2⟩
    · exact ⟨x, by simp, h1, h2⟩
/-- An edge that leads to nothing new. -/
theorem FoundOk.skip {best found : Int → List Int} {k : Nat} {D : List (Int × Int)} {x y : Int} (h : FoundOk best away k D found) (hn : ¬ ((best x).length = k ∧ best y = [] ∧ y ∉ away)) : FoundOk best away k (D ++ [(x, y)]) found := by
  intro z
  have e : ∀ p, Cand best away k (D ++ [(x, y)]) z p ↔ Cand best away k D z p := fun p => by
    rw [cand_snoc]
    exact ⟨fun h => h.resolve_right fun ⟨_, h, _⟩ => hn h, .inl⟩
  simp only [e]
  exact h z
theorem le_of_not_lt {p q : List Int} (h : lexLt p q = false) : le q p := h
theorem lexLt_asymm : ∀ {p q : List Int}, lexLt p q = true → lexLt q p = false
  | [], [], _ => rfl
  | [], _ :: _, _ => rfl
  | _ :: _, [], h => by simp [lexLt] at h
  | x :: p, y :: q, h => by
    simp only [lexLt] at h ⊢
    by_cases e : x = y
    · subst e
      simp only [if_true] at h ⊢
      exact lexLt_asymm h
    · rw [if_neg e] at h
      rw [if_neg (fun k => e k.symm)]
      simp only [decide_eq_true_eq, decide_eq_false_iff_not] at h ⊢
      omega
/-- An edge whose path is taken. -/
theorem FoundOk.take {best found found' : Int → List Int} {k : Nat} {D : List (Int × Int)} {x y : Int} (h : FoundOk best away k D found) (hn : (best x).length = k ∧ best y = [] ∧ y ∉ away)
    (hb : found y = [] ∨ lexLt (best x ++ [y]) (found y) = true) (h1 : found' y = best x ++ [y]) (h2 : ∀ z, z ≠ y → found' z = found z) : FoundOk best away k (D ++ [(x, y)]) found' := by
  intro z
  by_cases hz : z = y
  · subst hz
    right
    rw [h1]
    refine ⟨cand_snoc.2 (.inr ⟨rfl, hn, rfl⟩), fun p hp => ?_⟩
    rcases cand_snoc.1 hp with hp | ⟨_, _, rfl⟩
    · rcases h z with ⟨_, h4⟩ | ⟨h3, h4⟩
      · exact absurd hp (h4 p)
      · rcases hb with hb | hb
        · exact absurd hb h3.ne
        · refine le_trans ?_ ?_ (lexLt_asymm hb) (h4 p hp)
          · rw [h3.length]; simp [hn.1]
          · rw [h3.length, hp.length]
    · exact le_refl _
  · rw [h2 z hz]
    have e : ∀ p, Cand best away k (D ++ [(x, y)]) z p ↔ Cand best away k D z p := fun p => by
      rw [cand_snoc]
      exact ⟨fun h => h.resolve_right fun ⟨h, _⟩ => hz h, .inl⟩
    simp only [e]
    exact h z
/-- An edge whose path is no better. -/
theorem FoundOk.leave {best found : Int → List Int} {k : Nat} {D : List (Int × Int)} {x y : Int} (h : FoundOk best away k D found) 
    (hb : found y ≠ [] ∧ lexLt (best x ++ [y]) (found y) = false) : FoundOk best away k (D ++ [(x, y)]) found := by
  intro z
  rcases h z with ⟨h3, h4⟩ | ⟨h3, h4⟩
  · left
    refine ⟨h3, fun p hp => ?_⟩
    rcases cand_snoc.1 hp with hp | ⟨rfl, _⟩
    · exact h4 p hp
    · exact hb.1 h3
  · right
    refine ⟨cand_snoc.2 (.inl h3), fun p hp => ?_⟩
    rcases cand_snoc.1 hp with hp | ⟨rfl, _, rfl⟩
    · exact h4 p hp
    · exact le_of_not_lt hb.2
/-- One longer. -/
theorem Lev.step {best found best' : Int → List Int} {k : Nat} {D : List (Int × Int)} (h : Lev es away a best k) (hk : 0 < k) (hf : FoundOk best away k D found) (hD : ∀ u v, adj es u v ↔ (u, v) ∈ D)
    (hb : ∀ v, best' v = if found v = [] then best v else found v) : Lev es away a best' (k + 1) := by
  -- a path to y of length ≤ k+1, where nothing is known of y, comes from a best of length k
  have key : ∀ y q, Pth es away y a q → q.length ≤ k + 1 → best y = [] → ∃ x l, q = l ++ [y] ∧ Pth es away x a l ∧ l.length = k ∧ le (best x) l ∧ Cand best away k D y (best x ++ [y]) := by
    intro y q hq hl hy
    rcases hq.back with ⟨rfl, rfl⟩ | ⟨x, l, rfl, h1, h2⟩
    · exact absurd hy (h.full a [a] hq (by simpa using hk))
    · simp only [List.length_append, List.length_cons, List.length_nil] at hl
      have hlk : l.length = k := by
        rcases Nat.lt_or_ge l.length k with h3 | h3
        · exact absurd hy (h.full y _ hq (by simp; omega))
        · omega
      have hx := h.full x l h2 (by omega)
      obtain ⟨⟨s1, s2⟩, s3⟩ := h.sound x hx
      have hbx : (best x).length = k := by
        rcases Nat.lt_or_ge (best x).length k with h3 | h3
        · refine absurd hy (h.full y (best x ++ [y]) (s1.snoc hq.last h1) (by simp; omega))
        · omega
      rcases s2 l h2 with h4 | ⟨_, h4⟩
      · omega
      · exact ⟨x, l, rfl, h2, hlk, h4, x, (hD x y).1 h1, ⟨hbx, hy, hq.last⟩, rfl⟩
  refine ⟨fun v hv => ?_, fun v q hq hl => ?_⟩
  · rw [hb v] at hv ⊢
    split at hv
    · next e =>
      rw [if_pos e]
      obtain ⟨s1, s2⟩ := h.sound v hv
      exact ⟨s1, by omega⟩
    · next e =>
      rw [if_neg e]
      rcases hf v with ⟨h3, _⟩ | ⟨h3, h4⟩
      · exact absurd h3 e
      · have hlen := h3.length
        refine ⟨⟨?_, fun q hq => ?_⟩, by omega⟩
        · obtain ⟨x, hx, ⟨h5, h6, h7⟩, h8⟩ := h3
          rw [h8]
          have hne : best x ≠ [] := by intro e; rw [e] at h5; simp at h5; omega
          exact (h.sound x hne).1.1.snoc h7 ((hD x v).2 hx)
        · have hv0 : best v = [] := by obtain ⟨_, _, ⟨_, h6, _⟩, _⟩ := h3; exact h6
          rcases Nat.lt_or_ge (k + 1) q.length with h9 | h9
          · exact .inl (by omega)
          · obtain ⟨x, l, rfl, k1, k2, k3, k4⟩ := key v q hq h9 hv0
            right
            refine ⟨by simp; omega, ?_⟩
            have hbl : (best x).length = l.length := by
              have := k4.length
              simp at this
              omega
            refine le_trans ?_ ?_ (h4 _ k4) (le_snoc hbl k3)
            · rw [hlen, k4.length]
            · simp [hbl]
  · rw [hb v]
    split
    · next e =>
      intro hv
      obtain ⟨x, l, _, _, _, _, k4⟩ := key v q hq hl hv
      rcases hf v with ⟨_, h4⟩ | ⟨h3, _⟩
      · exact h4 _ k4
      · exact h3.ne e
    · next e => exact e
/-! ### no path need be longer than there are vertices -/
theorem Pth.from_mem : ∀ {p : List Int} {v x : Int}, Pth es away b v p → x ∈ p → ∃ p', Pth es away b x p' ∧ p'.Sublist p
  | [y], v, x, h, hx => by
    simp only [List.mem_singleton] at hx
    subst hx
    obtain ⟨rfl, h2, h3⟩ := h
    exact ⟨[x], ⟨rfl, h2, h3⟩, List.Sublist.refl _⟩
  | y :: z :: l, v, x, h, hx => by
    rcases List.mem_cons.1 hx with rfl | hx
    · obtain ⟨rfl, h2⟩ := h
      exact ⟨x :: z :: l, ⟨rfl, h2⟩, List.Sublist.refl _⟩
    · obtain ⟨p', h1, h2⟩ := Pth.from_mem h.2.2.2 hx
      exact ⟨p', h1, h2.cons _⟩
theorem Pth.lone : ∀ (n : Nat) {p : List Int} {v : Int}, p.length = n → Pth es away b v p → ∃ q, Pth es away b v q ∧ q.Nodup ∧ q ⊆ p
  | n, [y], v, hn, h => ⟨[y], h, by simp, fun _ h => h⟩
  | 0, y :: z :: l, v, hn, h => by simp at hn
  | n + 1, y :: z :: l, v, hn, h => by
    obtain ⟨rfl, h2, h3, h4⟩ := h
    obtain ⟨q, q1, q2, q3⟩ := Pth.lone n (by simpa using hn) h4
    by_cases hy : y ∈ q
    · obtain ⟨q', r1, r2⟩ := q1.from_mem hy
      exact ⟨q', r1, r2.nodup q2, fun x hx => List.mem_cons_of_mem _ (q3 (r2.subset hx))⟩
    · exact ⟨y :: q, q1.cons h2 h3, List.nodup_cons.2 ⟨hy, q2⟩, fun x hx => by
        rcases List.mem_cons.1 hx with rfl | hx
        · simp
        · exact List.mem_cons_of_mem _ (q3 hx)⟩
theorem Pth.range {n : Nat} (hr : ∀ u v, adj es u v → 0 ≤ v ∧ v < n) : ∀ {p : List Int} {v : Int}, Pth es away b v p → (0 ≤ v ∧ v < n) → ∀ x ∈ p, 0 ≤ x ∧ x < n
  | [y], v, h, hv, x, hx => by
    simp only [List.mem_singleton] at hx
    subst hx
    obtain ⟨rfl, _⟩ := h
    exact hv
  | y :: z :: l, v, h, hv, x, hx => by
    obtain ⟨rfl, _, h3, h4⟩ := h
    rcases List.mem_cons.1 hx with rfl | hx
    · exact hv
    · exact Pth.range hr h4 (hr _ _ h3) x hx
theorem Pth.short {n : Nat} (hr : ∀ u v, adj es u v → 0 ≤ v ∧ v < n) {p : List Int} {v : Int} (h : Pth es away b v p) (hv : 0 ≤ v ∧ v < n) : ∃ q, Pth es away b v q ∧ q.length ≤ n := by
  obtain ⟨q, q1, q2, _⟩ := h.lone _ rfl
  refine ⟨q, q1, ?_⟩
  have := nodup_len (l := q) (m := (List.range n).map Int.ofNat) q2 (fun x hx => by
    have := q1.range hr hv x hx
    exact List.mem_map.2 ⟨x.toNat, List.mem_range.2 (by omega), by simp; omega⟩)
  rwa [List.length_map, List.length_range] at this
/-- After as many rounds as there are vertices: the answer. -/
theorem Lev.ans {n : Nat} {best : Int → List Int} (h : Lev es away a best n) (hr : ∀ u v, adj es u v → 0 ≤ v ∧ v < n) (ha : 0 ≤ a ∧ a < n) : IsAns es away a b (best b) := by
  by_cases hb : best b = []
  · refine .inr ⟨hb, fun q hq => ?_⟩
    obtain ⟨q', h1, h2⟩ := hq.short hr ha
    exact h.full b q' h1 h2 hb
  · exact .inl (h.sound b hb).1
end Go.Proofs.Ytngglgkemonibaa.L
namespace Go.Proofs.Ytngglgkemonibaa.L
variable {es : List (Int × Int)} {away : List Int} {a b : Int}
/-- What stands at each round of the search. -/
structure Bfs (es : List (Int × Int)) (away : List Int) (b : Int) (d : Int → Nat) (Q : List Int) : Prop where
  start : d b = 1
  only : ∀ v, d v = 1 → v = b
  free : ∀ v, 0 < d v → v ∉ away
  prev : ∀ v, 1 < d v → ∃ x, adj es v x ∧ d x + 1 = d v
  done : ∀ u v, 0 < d u → u ∉ Q → adj es u v → v ∉ away → 0 < d v ∧ d v ≤ d u + 1
  span : ∀ v u, 0 < d v → u ∈ Q → d v ≤ d u + 1
  rise : Q.Pairwise fun u v => d u ≤ d v
  known : ∀ u ∈ Q, 0 < d u
theorem Bfs.init {d : Int → Nat} (hb : b ∉ away) (h1 : d b = 1) (h0 : ∀ v, v ≠ b → d v = 0) : Bfs es away b d [b] where
  start := h1
  only v hv := by
    by_cases h : v = b
    · exact h
    · rw [h0 v h] at hv; omega
  free v hv := by
    by_cases h : v = b
    · rw [h]; exact hb
    · rw [h0 v h] at hv; omega
  prev v hv := by
    by_cases h : v = b
    · rw [h, h1] at hv; omega
    · rw [h0 v h] at hv; omega
  done u v hu hq := by
    by_cases h : u = b
    · simp [h] at hq
    · rw [h0 u h] at hu; omega
  span v u hv hu := by
    simp only [List.mem_singleton] at hu
    subst hu
    by_cases h : v = u
    · subst h; omega
    · rw [h0 v h] at hv; omega
  rise := by simp
  known u hu := by
    simp only [List.mem_singleton] at hu
    subst hu; omega
/-- Within a round: of the first's neighbours, those in 'l' are seen. -/
structure BfsIn (es : List (Int × Int)) (away : List Int) (b : Int) (d : Int → Nat) (u : Int) (Q : List Int) (l : List Int) : Prop where
  bfs : Bfs es away b d (u :: Q)
  seen : ∀ v ∈ l, v ∉ away → 0 < d v ∧ d v ≤ d u + 1
theorem Bfs.enter {d : Int → Nat} {u : Int} {Q : List Int} (h : Bfs es away b d (u :: Q)) : BfsIn es away b d u Q [] := ⟨h, by simp⟩
/-- A neighbour that is known, or kept away from. -/
theorem BfsIn.old {d : Int → Nat} {u x : Int} {Q l : List Int} (h : BfsIn es away b d u Q l) (hx : x ∉ away → 0 < d x) : BfsIn es away b d u Q (l ++ [x]) := by
  refine ⟨h.bfs, fun v hv hva => ?_⟩
  rcases List.mem_append.1 hv with hv | hv
  · exact h.seen v hv hva
  · simp only [List.mem_singleton] at hv
    subst hv
    exact ⟨hx hva, h.bfs.span v u (hx hva) (by simp)⟩
/-- A neighbour that is new. -/
theorem BfsIn.fresh {d d' : Int → Nat} {u x : Int} {Q l : List Int} (h : BfsIn es away b d u Q l) (hx : d x = 0) (hxa : x ∉ away) (he : adj es u x) (h1 : d' x = d u + 1) (h2 : ∀ v, v ≠ x → d' v = d v) : BfsIn es away b d' u (Q ++ [x]) (l ++ [x]) := by
  obtain ⟨hB, hs⟩ := h
  have hu : 0 < d u := hB.known u (by simp)
  have hux : u ≠ x := by intro e; subst e; omega
  have hd : ∀ v, 0 < d v → d' v = d v := fun v hv => h2 v (by intro e; subst e; omega)
  have hd' : ∀ v, 0 < d' v → v = x ∨ 0 < d v := fun v hv => by
    by_cases e : v = x
    · exact .inl e
    · rw [h2 v e] at hv; exact .inr hv
  have hdu := hd u hu
  have hmin : ∀ w ∈ u :: Q, d u ≤ d w := fun w hw => by
    rcases List.mem_cons.1 hw with rfl | hw
    · exact Nat.le_refl _
    · exact (List.pairwise_cons.1 hB.rise).1 w hw
  have hmem : ∀ w, w ∈ u :: (Q ++ [x]) ↔ w ∈ u :: Q ∨ w = x := fun w => by simp [or_assoc]
  refine ⟨⟨?_, ?_, ?_, ?_, ?_, ?_, ?_, ?_⟩, ?_⟩
  · rw [hd b (by rw [hB.start]; omega)]; exact hB.start
  · intro v hv
    by_cases e : v = x
    · subst e; rw [h1] at hv; omega
    · rw [h2 v e] at hv; exact hB.only v hv
  · intro v hv
    rcases hd' v hv with rfl | hv
    · exact hxa
    · exact hB.free v hv
  · intro v hv
    by_cases e : v = x
    · subst e; exact ⟨u, he.symm, by rw [hdu, h1]⟩
    · rw [h2 v e] at hv ⊢
      obtain ⟨y, hy, hyd⟩ := hB.prev v hv
      exact ⟨y, hy, by rw [hd y (by omega)]; exact hyd⟩
  · intro w v hw hq hadj hva
    have hwx : w ≠ x := fun e => hq ((hmem w).2 (.inr e))
    rw [h2 w hwx] at hw ⊢
    have := hB.done w v hw (fun k => hq ((hmem w).2 (.inl k))) hadj hva
    rw [hd v this.1]; exact this
  · intro v w hv hw
    have hvd : d' v ≤ d u + 1 := by
      rcases hd' v hv with rfl | hv
      · omega
      · rw [hd v hv]; exact hB.span v u hv (by simp)
    rcases (hmem w).1 hw with hw | rfl
    · rw [hd w (hB.known w hw)]
      have := hmin w hw
      omega
    · omega
  · have e : u :: (Q ++ [x]) = (u :: Q) ++ [x] := rfl
    rw [e, List.pairwise_append]
    refine ⟨?_, by simp, ?_⟩
    · refine hB.rise.imp_of_mem ?_
      intro v w hv hw hvw
      rw [hd v (hB.known v hv), hd w (hB.known w hw)]; exact hvw
    · intro v hv w hw
      simp only [List.mem_singleton] at hw
      subst hw
      rw [hd v (hB.known v hv), h1]
      exact hB.span v u (hB.known v hv) (by simp)
  · intro w hw
    rcases (hmem w).1 hw with hw | rfl
    · rw [hd w (hB.known w hw)]; exact hB.known w hw
    · omega
  · intro v hv hva
    rcases List.mem_append.1 hv with hv | hv
    · have := hs v hv hva
      rw [hd v this.1, hdu]; exact this
    · simp only [List.mem_singleton] at hv
      subst hv
      rw [h1, hdu]; omega
/-- The round's end: the first leaves the queue. -/
theorem BfsIn.leave {d : Int → Nat} {u : Int} {Q l : List Int} (h : BfsIn es away b d u Q l) (hl : ∀ v, adj es u v → v ∈ l) : Bfs es away b d Q where
  start := h.bfs.start
  only := h.bfs.only
  free := h.bfs.free
  prev := h.bfs.prev
  done w v hw hq he hva := by
    by_cases e : w = u
    · subst e; exact h.seen v (hl v he) hva
    · exact h.bfs.done w v hw (by simp [e, hq]) he hva
  span v w hv hw := h.bfs.span v w hv (by simp [hw])
  rise := (List.pairwise_cons.1 h.bfs.rise).2
  known w hw := h.bfs.known w (by simp [hw])
theorem Bfs.far_nil {d : Int → Nat} (h : Bfs es away b d []) (K : Nat) : Far es away b d K :=
  ⟨h.start, h.only, h.free, h.prev, fun u v hu _ he hv => h.done u v hu (by simp) he hv⟩
/-- a is known: all that is nearer than its neighbours on the way has been seen. -/
theorem Bfs.far {d : Int → Nat} {Q : List Int} (h : Bfs es away b d Q) (ha : 0 < d a) : Far es away b d (d a - 1) :=
  ⟨h.start, h.only, h.free, h.prev, fun u v hu hK he hv => h.done u v hu (fun hq => by have := h.span a u ha hq; omega) he hv⟩
end Go.Proofs.Ytngglgkemonibaa.L
namespace Go.Proofs.Ytngglgkemonibaa.L
variable {N : Nat} {es : List (Int × Int)} {away : List Int} {b : Int}
/-- How far it is, as the row tells it. -/
def dOf (N : Nat) (F : List Int) (v : Int) : Nat := if 0 ≤ v ∧ v < (N : Int) then (nth F v.toNat).toNat else 0
theorem dOf_in {F : List Int} {v : Int} (h : 0 ≤ v ∧ v < (N : Int)) : dOf N F v = (nth F v.toNat).toNat := if_pos h
theorem dOf_range {F : List Int} {v : Int} (h : 0 < dOf N F v) : 0 ≤ v ∧ v < (N : Int) := by
  unfold dOf at h
  split at h
  · assumption
  · omega
structure QF (N : Nat) (away : List Int) (F : List Int) : Prop where
  len : F.length = N
  neg : ∀ v : Nat, v < N → (nth F v < 0 ↔ (v : Int) ∈ away)
  lo : ∀ v : Nat, v < N → -1 ≤ nth F v
  hi : ∀ v : Nat, v < N → nth F v + F.count 0 ≤ N + 1
theorem count0_set {F : List Int} {x : Nat} {y : Int} (hx : x < F.length) (h0 : nth F x = 0) (hy : y ≠ 0) : (F.set x y).count 0 + 1 = F.count 0 := by
  have h1 := List.count_set (a := y) (b := 0) (l := F) (i := x) hx
  have h2 : F[x] = 0 := by rw [← nth_eq hx]; exact h0
  have h3 : 0 < F.count 0 := List.count_pos_iff.2 (h2 ▸ List.getElem_mem hx)
  rw [h1, h2]
  simp [hy]
  omega
theorem QF.put {F : List Int} (h : QF N away F) {x : Nat} {y : Int} (hx : x < N) (h0 : nth F x = 0) (hy : 0 < y) (hy2 : y + F.count 0 ≤ N + 2) : QF N away (F.set x y) := by
  have hl := h.len
  have hc := count0_set (y := y) (by omega) h0 (by omega)
  have hs : ∀ v, nth (F.set x y) v = if x = v then y else nth F v := fun v => nth_set (by omega)
  refine ⟨by simpa using hl, fun v hv => ?_, fun v hv => ?_, fun v hv => ?_⟩
  · rw [hs]
    have := h.neg v hv
    split
    · next e => subst e; rw [h0] at this; exact ⟨fun k => by omega, fun k => by have := this.2 k; omega⟩
    · exact this
  · rw [hs]; split
    · omega
    · exact h.lo v hv
  · rw [hs]
    have := h.hi v hv
    split <;> omega
theorem dOf_set {F : List Int} {x y v : Int} (hl : F.length = N) (hx : 0 ≤ x ∧ x < (N : Int)) : dOf N (F.set x.toNat y) v = if v = x then y.toNat else dOf N F v := by
  unfold dOf
  rw [nth_set (by omega)]
  by_cases e : v = x
  · subst e; rw [if_pos hx, if_pos rfl, if_pos rfl]
  · rw [if_neg e]
    by_cases hv : 0 ≤ v ∧ v < (N : Int)
    · rw [if_pos hv, if_pos hv, if_neg (by omega)]
    · rw [if_neg hv, if_neg hv]
/-- What stands at each round. -/
structure OutOk (N : Nat) (es : List (Int × Int)) (away : List Int) (b : Int) (F q : List Int) : Prop where
  f : QF N away F
  bfs : Bfs es away b (dOf N F) q
  few : q.length + F.count 0 ≤ N + 1
theorem OutOk.range {F q : List Int} (h : OutOk N es away b F q) : ∀ x ∈ q, 0 ≤ x ∧ x < (N : Int) := fun x hx => dOf_range (h.bfs.known x hx)
theorem OutOk.start {F : List Int} {B : Nat} (hl : F.length = N) (hB : B < N) (hF : ∀ v : Nat, v < N → nth F v = if (v : Int) ∈ away then -1 else 0) (hb : (B : Int) ∉ away) : OutOk N es away B (F.set B 1) [(B : Int)] := by
  have h0 : nth F B = 0 := by rw [hF B hB, if_neg hb]
  have hcl : F.count 0 ≤ F.length := List.count_le_length
  have hc := count0_set (y := 1) (by omega) h0 (by omega)
  have h1 : QF N away F := by
    refine ⟨hl, fun v hv => ?_, fun v hv => ?_, fun v hv => ?_⟩
    · rw [hF v hv]; split <;> simp_all
    · rw [hF v hv]; split <;> omega
    · rw [hF v hv]; split <;> omega
  refine ⟨h1.put hB h0 (by omega) (by omega), ?_, by simp; omega⟩
  have hd : ∀ v, dOf N (F.set B 1) v = if v = (B : Int) then 1 else dOf N F v := fun v => by
    have := dOf_set (y := 1) (v := v) hl (x := (B : Int)) (by omega)
    simpa using this
  refine Bfs.init hb (by rw [hd, if_pos rfl]) fun v hv => ?_
  rw [hd, if_neg hv]
  unfold dOf
  split
  · next e => rw [hF _ (by omega)]; split <;> rfl
  · rfl
/-- Within a round. -/
structure InOk (N : Nat) (es : List (Int × Int)) (away : List Int) (b : Int) (k : Nat) (F : List Int) (u : Int) (q l : List Int) : Prop where
  f : QF N away F
  bfs : BfsIn es away b (dOf N F) u q l
  same : q.length + 1 + F.count 0 = k
  few : k ≤ N + 1
theorem OutOk.enter {F q : List Int} {u : Int} (h : OutOk N es away b F (u :: q)) : InOk N es away b (q.length + 1 + F.count 0) F u q [] := ⟨h.f, h.bfs.enter, rfl, by have := h.few; simpa using this⟩
theorem InOk.urange {k : Nat} {F q l : List Int} {u : Int} (h : InOk N es away b k F u q l) : 0 ≤ u ∧ u < (N : Int) := dOf_range (h.bfs.bfs.known u (by simp))
theorem InOk.upos {k : Nat} {F q l : List Int} {u : Int} (h : InOk N es away b k F u q l) : 0 < nth F u.toNat := by
  have := h.bfs.bfs.known u (by simp)
  rw [dOf_in h.urange] at this
  omega
theorem InOk.old {k : Nat} {F q l : List Int} {u x : Int} (h : InOk N es away b k F u q l) (hx : 0 ≤ x ∧ x < (N : Int)) (h0 : nth F x.toNat ≠ 0) : InOk N es away b k F u q (l ++ [x]) := by
  refine ⟨h.f, h.bfs.old fun ha => ?_, h.same, h.few⟩
  rw [dOf_in hx]
  have h1 := h.f.neg x.toNat (by omega)
  rw [show ((x.toNat : Nat) : Int) = x by omega] at h1
  have : ¬ nth F x.toNat < 0 := fun k => ha (h1.1 k)
  omega
theorem InOk.fresh {k : Nat} {F q l : List Int} {u x : Int} (h : InOk N es away b k F u q l) (hx : 0 ≤ x ∧ x < (N : Int)) (h0 : nth F x.toNat = 0) (he : adj es u x) : InOk N es away b k (F.set x.toNat (nth F u.toNat + 1)) u (q ++ [x]) (l ++ [x]) := by
  have hu := h.urange
  have hup := h.upos
  have hl := h.f.len
  have hc := count0_set (F := F) (x := x.toNat) (y := nth F u.toNat + 1) (by omega) h0 (by omega)
  have hhi := h.f.hi u.toNat (by omega)
  refine ⟨h.f.put (by omega) h0 (by omega) (by omega), ?_, ?_, h.few⟩
  · refine h.bfs.fresh (by rw [dOf_in hx, h0]; rfl) ?_ he ?_ ?_
    · intro ha
      have h1 := h.f.neg x.toNat (by omega)
      rw [show ((x.toNat : Nat) : Int) = x by omega] at h1
      have := h1.2 ha
      omega
    · rw [dOf_set hl hx, if_pos rfl, dOf_in hu]; omega
    · intro v hv
      rw [dOf_set hl hx, if_neg hv]
  · have := h.same
    simp only [List.length_append, List.length_cons, List.length_nil]; omega
theorem InOk.leave {k : Nat} {F q l : List Int} {u : Int} (h : InOk N es away b k F u q l) (hl : ∀ v, adj es u v → v ∈ l) : OutOk N es away b F q := ⟨h.f, h.bfs.leave hl, by have := h.same; have := h.few; omega⟩
end Go.Proofs.Ytngglgkemonibaa.L
