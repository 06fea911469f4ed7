/- Rot: rounds of a ring as rows. -/
import Derived.Test.YtngglgkemonibaaQ42
set_option linter.unusedVariables false
set_option linter.unusedSimpArgs false
set_option linter.unnecessarySimpa false
namespace Go.Proofs.Ytngglgkemonibaa.P
open Go.RowKit Go.Proofs.YtngglgkemonibaaW.PrintWords
set_option linter.unusedVariables false
set_option linter.unusedSimpArgs false
def rotL (c : List Int) (f : Nat) : List Int := (List.range c.length).map fun i => c.getD ((f + i) % c.length) 0
def revL (c : List Int) (f : Nat) : List Int := (List.range c.length).map fun i => c.getD ((f + c.length - i) % c.length) 0
theorem rotL_length (c : List Int) (f : Nat) : (rotL c f).length = c.length := by simp [rotL]
theorem revL_length (c : List Int) (f : Nat) : (revL c f).length = c.length := by simp [revL]
theorem rotL_ring (c : List Int) (p : Nat) (hp : p < c.length) : rotL c p = c.drop p ++ c.take p := by
  apply List.ext_getElem?
  intro i
  by_cases hi : i < c.length
  · have h1 : (rotL c p)[i]? = some (c.getD ((p + i) % c.length) 0) := by
      unfold rotL; rw [List.getElem?_map, List.getElem?_range hi]; rfl
    rw [h1]
    by_cases h2 : i < c.length - p
    · rw [List.getElem?_append_left (by rw [List.length_drop]; exact h2), List.getElem?_drop, Nat.mod_eq_of_lt (by omega), List.getD_eq_getElem?_getD, List.getElem?_eq_getElem (by omega)]; rfl
    · rw [List.getElem?_append_right (by rw [List.length_drop]; omega), List.length_drop, List.getElem?_take_of_lt (by omega),
        show (p + i) % c.length = i - (c.length - p) by rw [Nat.mod_eq_sub_mod (by omega), Nat.mod_eq_of_lt (by omega)]; omega,
        List.getD_eq_getElem?_getD, List.getElem?_eq_getElem (by omega)]; rfl
  · rw [List.getElem?_eq_none (by rw [rotL_length]; omega), List.getElem?_eq_none (by simp; omega)]
theorem revL_ring (c : List Int) (p : Nat) (hp : p < c.length) : revL c p = (rotL c p).take 1 ++ ((rotL c p).drop 1).reverse := by
  have hl := rotL_length c p
  have hr : ∀ i, i < c.length → (rotL c p)[i]? = some (c.getD ((p + i) % c.length) 0) := fun i hi => by
    unfold rotL; rw [List.getElem?_map, List.getElem?_range hi]; rfl
  apply List.ext_getElem?
  intro i
  by_cases hi : i < c.length
  · have h1 : (revL c p)[i]? = some (c.getD ((p + c.length - i) % c.length) 0) := by
      unfold revL; rw [List.getElem?_map, List.getElem?_range hi]; rfl
    rw [h1]
    cases i with
    | zero =>
      rw [List.getElem?_append_left (by rw [List.length_take]; omega), List.getElem?_take_of_lt (by omega), hr 0 hi]
      rw [Nat.sub_zero, Nat.add_mod_right, Nat.add_zero]
    | succ i =>
      have hi' : i < ((rotL c p).drop 1).length := by rw [List.length_drop]; omega
      rw [List.getElem?_append_right (by rw [List.length_take]; omega), List.length_take, show i + 1 - min 1 (rotL c p).length = i by omega,
        List.getElem?_reverse hi', List.length_drop, List.getElem?_drop, show 1 + ((rotL c p).length - 1 - 1 - i) = c.length - (i + 1) by omega, hr _ (by omega)]
      rw [show p + c.length - (i + 1) = p + (c.length - (i + 1)) by omega]
  · rw [List.getElem?_eq_none (by rw [revL_length]; omega), List.getElem?_eq_none (by rw [List.length_append, List.length_take, List.length_reverse, List.length_drop]; omega)]
end Go.Proofs.Ytngglgkemonibaa.P
