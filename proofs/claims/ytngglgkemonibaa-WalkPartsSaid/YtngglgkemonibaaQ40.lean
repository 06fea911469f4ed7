/- Pl: plain facts of graphs: who stands beside whom, what can be reached. -/
import Derived.Test.YtngglgkemonibaaQ39
import Derived.Test.YtngglgkemonibaaQ15
set_option linter.unusedVariables false
set_option linter.unusedSimpArgs false
set_option linter.unnecessarySimpa false
namespace Go.Proofs.Ytngglgkemonibaa.L
open Go Go.RowKit
def Adj (es : List (Int × Int)) (a b : Int) : Prop := (a, b) ∈ es ∨ (b, a) ∈ es
instance (es : List (Int × Int)) (a b : Int) : Decidable (Adj es a b) := by unfold Adj; infer_instance
theorem Adj.symm {es : List (Int × Int)} {a b : Int} (h : Adj es a b) : Adj es b a := h.elim .inr .inl
theorem mem_insR {x y : Int} {a : List Int} : x ∈ insR y a ↔ x = y ∨ x ∈ a := by
  unfold insR
  constructor
  · intro h
    rcases List.mem_append.1 h with h | h
    · exact .inr (List.mem_of_mem_take h)
    · rcases List.mem_cons.1 h with h | h
      · exact .inl h
      · exact .inr (List.mem_of_mem_drop h)
  · intro h
    rcases h with rfl | h
    · simp
    · rw [← List.take_append_drop (posR y a a.length) a] at h
      rcases List.mem_append.1 h with h | h
      · exact List.mem_append.2 (.inl h)
      · exact List.mem_append.2 (.inr (List.mem_cons.2 (.inr h)))
theorem len_insR (y : Int) (a : List Int) : (insR y a).length = a.length + 1 := by
  unfold insR
  have : (a.take (posR y a a.length) ++ a.drop (posR y a a.length)).length = a.length := by rw [List.take_append_drop]
  simp only [List.length_append, List.length_cons] at this ⊢
  omega
theorem mem_fold (l : List Int) : ∀ (a : List Int) (x : Int), x ∈ l.foldl (fun a x => insR x a) a ↔ x ∈ l ∨ x ∈ a := by
  induction l with
  | nil => simp
  | cons y l ih => 
    intro a x; rw [List.foldl_cons, ih, mem_insR, List.mem_cons]
    constructor
    · rintro (h | h | h)
      · exact .inl (.inr h)
      · exact .inl (.inl h)
      · exact .inr h
    · rintro ((h | h) | h)
      · exact .inr (.inl h)
      · exact .inl h
      · exact .inr (.inr h)
theorem mem_sortR {l : List Int} {x : Int} : x ∈ sortR l ↔ x ∈ l := by unfold sortR; rw [mem_fold]; simp
theorem len_fold (l : List Int) : ∀ a : List Int, (l.foldl (fun a x => insR x a) a).length = l.length + a.length := by
  induction l with
  | nil => simp
  | cons y l ih => intro a; rw [List.foldl_cons, ih, len_insR, List.length_cons]; omega
theorem len_sortR (l : List Int) : (sortR l).length = l.length := by unfold sortR; rw [len_fold]; simp
theorem mem_nbL {es : List (Int × Int)} {v x : Int} : x ∈ nbL es v ↔ Adj es v x := by
  unfold nbL nb1 Adj
  rw [List.mem_flatMap]
  constructor
  · rintro ⟨e, he, h⟩
    rcases List.mem_append.1 h with h | h
    · split at h
      · next h1 => simp only [List.mem_singleton] at h; subst h h1; exact .inl he
      · cases h
    · split at h
      · next h1 => simp only [List.mem_singleton] at h; subst h h1; exact .inr he
      · cases h
  · rintro (h | h)
    · exact ⟨_, h, by simp⟩
    · exact ⟨_, h, by simp⟩
theorem mem_nearR {n : Int} {es : List (Int × Int)} {v x : Int} (hR : RightG n es) : x ∈ nearR n es v ↔ Adj es v x := by
  unfold nearR; rw [if_pos hR, mem_sortR, mem_nbL]
theorem len_nearR (n : Int) (es : List (Int × Int)) (v : Int) : (nearR n es v).length ≤ 2 * es.length := by
  unfold nearR; split
  · rw [len_sortR]; exact nbL_len es v
  · simp
/-- What is reached from a within l. -/
inductive Reach (es : List (Int × Int)) (l : List Int) (a : Int) : Int → Prop where
  | base : Reach es l a a
  | step {b c : Int} : Reach es l a b → Adj es b c → c ∈ l → Reach es l a c
def WholeG (n : Int) (es : List (Int × Int)) (l : List Int) : Prop := RightG n es ∧ 0 < l.length ∧ l.Nodup ∧ (∀ i, i < l.length → 0 ≤ nth l i ∧ nth l i < n) ∧ ∀ v ∈ l, Reach es l (nth l 0) v
/-- What is closed holds all that is reached. -/
theorem Reach.closed {es : List (Int × Int)} {l got : List Int} {a : Int} (h0 : a ∈ got) (hc : ∀ b ∈ got, ∀ c, Adj es b c → c ∈ l → c ∈ got) {v : Int} (h : Reach es l a v) : v ∈ got := by
  induction h with
  | base => exact h0
  | step _ h1 h2 ih => exact hc _ ih _ h1 h2
theorem nodup_len : ∀ {l m : List Int}, l.Nodup → l ⊆ m → l.length ≤ m.length
  | [], _, _, _ => by simp
  | x :: l, m, hl, h => by
    rw [List.nodup_cons] at hl
    have hx : x ∈ m := h (by simp)
    have := nodup_len (l := l) (m := m.erase x) hl.2 fun y hy => (List.mem_erase_of_ne (fun e : y = x => hl.1 (by rw [← e]; exact hy))).2 (h (by simp [hy]))
    rw [List.length_erase_of_mem hx] at this
    have hp := List.length_pos_of_mem hx
    simp only [List.length_cons]; omega
theorem full_of_len : ∀ {l m : List Int}, l.Nodup → l ⊆ m → m.length ≤ l.length → m ⊆ l := by
  intro l m hl h he x hx
  apply Classical.byContradiction
  intro hn
  have := nodup_len (l := x :: l) (m := m) (List.nodup_cons.2 ⟨hn, hl⟩) (fun y hy => (List.mem_cons.1 hy).elim (fun e => by rw [e]; exact hx) (fun hy => h hy))
  simp only [List.length_cons] at this
  omega
end Go.Proofs.Ytngglgkemonibaa.L
