/- RF: which traces refute, as a plain law. -/
import Derived.Test.YtnmocjhpbobahaaY33
import Derived.Test.YtnmocjhpbobahaaY36
import Derived.Test.YtnmocjhpbobahaaY43
set_option linter.unusedVariables false
set_option linter.unusedSimpArgs false
set_option linter.unnecessarySimpa false
namespace Go.Proofs.Ytnmocjhpbobahaa.L
open Go Go.RowKit
set_option maxRecDepth 100000
/-- The last cut is one, and can't be done. -/
def lastB (n : Nat) (r : Rst) (x : Cu) : Bool := decide (okT n x) && (decide (cutF r x.1.toNat x.2.1.toNat x.2.2.1.toNat = (x, true)) && !(doF r x).2)
def clashB (n : Nat) (r : Rst) (l : List Cu) : Bool := decide ((replF n r (l.take (l.length - 1))).2 = l.length - 1) && (decide (l ≠ []) && lastB n (replF n r (l.take (l.length - 1))).1 (cuAt l (l.length - 1)))
def stuckB (r : Rst) : Bool := !(isFb r) && decide (leastF r = none)
def unfitB (r : Rst) : Bool := isFb r && !(fitFb r)
def refuB (n : Nat) (es : List (Int × Int)) (e : Int) (l : List Cu) : Bool :=
  if e = 2 then decide (l = [] ∧ (n : Int) < 4)
  else if e = 3 then decide (l = []) && decide (0 < (n : Int) ∧ minL (degF n es es.length) < 3)
  else if e = 5 then clashB n (beginF n es) l
  else if e = 4 then decide ((replF n (beginF n es) l).2 = l.length) && stuckB (replF n (beginF n es) l).1
  else if e = 6 then decide ((replF n (beginF n es) l).2 = l.length) && unfitB (replF n (beginF n es) l).1
  else false
theorem refuB_2 (n : Nat) (es : List (Int × Int)) (l : List Cu) : refuB n es 2 l = decide (l = [] ∧ (n : Int) < 4) := by unfold refuB; rw [if_pos rfl]
theorem refuB_3 (n : Nat) (es : List (Int × Int)) (l : List Cu) : refuB n es 3 l = (decide (l = []) && decide (0 < (n : Int) ∧ minL (degF n es es.length) < 3)) := by unfold refuB; rw [if_neg (by decide), if_pos rfl]
theorem refuB_5 (n : Nat) (es : List (Int × Int)) (l : List Cu) : refuB n es 5 l = clashB n (beginF n es) l := by unfold refuB; rw [if_neg (by decide), if_neg (by decide), if_pos rfl]
theorem refuB_4 (n : Nat) (es : List (Int × Int)) (l : List Cu) : refuB n es 4 l = (decide ((replF n (beginF n es) l).2 = l.length) && stuckB (replF n (beginF n es) l).1) := by unfold refuB; rw [if_neg (by decide), if_neg (by decide), if_neg (by decide), if_pos rfl]
theorem refuB_6 (n : Nat) (es : List (Int × Int)) (l : List Cu) : refuB n es 6 l = (decide ((replF n (beginF n es) l).2 = l.length) && unfitB (replF n (beginF n es) l).1) := by unfold refuB; rw [if_neg (by decide), if_neg (by decide), if_neg (by decide), if_neg (by decide), if_pos rfl]
theorem refuB_n {n : Nat} {es : List (Int × Int)} {e : Int} {l : List Cu} (h2 : ¬ e = 2) (h3 : ¬ e = 3) (h5 : ¬ e = 5) (h4 : ¬ e = 4) (h6 : ¬ e = 6) : refuB n es e l = false := by unfold refuB; rw [if_neg h2, if_neg h3, if_neg h5, if_neg h4, if_neg h6]
theorem cuAt_last (m : List Cu) (x : Cu) : cuAt (m ++ [x]) m.length = x := by simp [cuAt]
theorem clashB_last (n : Nat) (r : Rst) (m : List Cu) (x : Cu) : clashB n r (m ++ [x]) = (decide ((replF n r m).2 = m.length) && lastB n (replF n r m).1 x) := by
  unfold clashB
  have e1 : (m ++ [x]).length - 1 = m.length := by simp
  have e2 : (m ++ [x]).take m.length = m := by simp
  rw [e1, e2, cuAt_last, decide_eq_true (show m ++ [x] ≠ [] by simp), Bool.true_and]
theorem clashB_nil (n : Nat) (r : Rst) : clashB n r [] = false := by
  unfold clashB
  rw [decide_eq_false (show ¬ ([] : List Cu) ≠ [] by simp), Bool.false_and, Bool.and_false]
end Go.Proofs.Ytnmocjhpbobahaa.L
