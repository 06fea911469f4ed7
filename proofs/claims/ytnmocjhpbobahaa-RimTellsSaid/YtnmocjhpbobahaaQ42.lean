/- Pl: plain facts of rows (for Rim: without what is reached). -/
import Derived.Test.YtnmocjhpbobahaaQ25
import Derived.Test.YtnmocjhpbobahaaQ26
import Derived.Test.YtnmocjhpbobahaaQ8
set_option linter.unusedVariables false
set_option linter.unusedSimpArgs false
set_option linter.unnecessarySimpa false
namespace Go.Proofs.Ytnmocjhpbobahaa.L
open Go Go.RowKit
def Adj (es : List (Int × Int)) (a b : Int) : Prop := (a, b) ∈ es ∨ (b, a) ∈ es
instance (es : List (Int × Int)) (a b : Int) : Decidable (Adj es a b) := by unfold Adj; infer_instance
theorem Adj.symm {es : List (Int × Int)} {a b : Int} (h : Adj es a b) : Adj es b a := h.elim .inr .inl
theorem mem_insR {x y : Int} {a : List Int} : x ∈ insR y a ↔ x = y ∨ x ∈ a := by
  unfold insR
  constructor
  · intro h
    rcases List.mem_append.1 h with h | h
    · exact .inr (List.mem_of_mem_take h)
    · rcases List.mem_cons.1 h with h | h
      · exact .inl h
      · exact .inr (List.mem_of_mem_drop h)
  · intro h
    rcases h with rfl | h
    · simp
    · rw [← List.take_append_drop (posU y a a.length) a] at h
      rcases List.mem_append.1 h with h | h
      · exact List.mem_append.2 (.inl h)
      · exact List.mem_append.2 (.inr (List.mem_cons.2 (.inr h)))
theorem len_insR (y : Int) (a : List Int) : (insR y a).length = a.length + 1 := by
  unfold insR
  have : (a.take (posU y a a.length) ++ a.drop (posU y a a.length)).length = a.length := by rw [List.take_append_drop]
  simp only [List.length_append, List.length_cons] at this ⊢
  omega
theorem mem_fold (l : List Int) : ∀ (a : List Int) (x : Int), x ∈ l.foldl (fun a x => insR x a) a ↔ x ∈ l ∨ x ∈ a := by
  induction l with
  | nil => simp
  | cons y l ih => 
    intro a x; rw [List.foldl_cons, ih, mem_insR, List.mem_cons]
    constructor
    · rintro (h | h | h)
      · exact .inl (.inr h)
      · exact .inl (.inl h)
      · exact .inr h
    · rintro ((h | h) | h)
      · exact .inr (.inl h)
      · exact .inl h
      · exact .inr (.inr h)
theorem mem_sortR {l : List Int} {x : Int} : x ∈ sortR l ↔ x ∈ l := by unfold sortR; rw [mem_fold]; simp
theorem len_fold (l : List Int) : ∀ a : List Int, (l.foldl (fun a x => insR x a) a).length = l.length + a.length := by
  induction l with
  | nil => simp
  | cons y l ih => intro a; rw [List.foldl_cons, ih, len_insR, List.length_cons]; omega
theorem len_sortR (l : List Int) : (sortR l).length = l.length := by unfold sortR; rw [len_fold]; simp
end Go.Proofs.Ytnmocjhpbobahaa.L
