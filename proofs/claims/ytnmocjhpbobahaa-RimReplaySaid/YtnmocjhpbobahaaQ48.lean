/- R13: rim.Run of a right graph. RR: a run's cuts, replayed; what is left then. -/
import Derived.Test.YtnmocjhpbobahaaQ22
import Derived.Test.YtnmocjhpbobahaaQ23
import Derived.Test.YtnmocjhpbobahaaQ15
import Derived.Test.YtnmocjhpbobahaaQ47
import Derived.Test.YtnmocjhpbobahaaQ39
import Derived.Test.YtnmocjhpbobahaaQ36
import Derived.Test.YtnmocjhpbobahaaQ40
import Derived.Test.YtnmocjhpbobahaaQ41
set_option linter.unusedVariables false
set_option linter.unusedSimpArgs false
set_option linter.unnecessarySimpa false
namespace Go.Proofs.Ytnmocjhpbobahaa.L
open Go Go.RowKit
set_option maxRecDepth 100000
set_option maxHeartbeats 4000000
def isFb (r : Rst) : Bool := decide (r.count = 4 ∧ edgE r r.near.length = 12)
def fitFb (r : Rst) : Bool := decide (cntM r 2 r.near.length ≤ 1 ∧ cntM r 1 r.near.length ≤ 3)
/-- The run's rounds. -/
def runF : Nat → Rst → List Cu → Int × List Cu
  | 0, _, cs => (4, cs)
  | k + 1, r, cs => if isFb r = true then (if fitFb r = true then (1, cs) else (6, cs)) else match leastF r with
    | none => (4, cs)
    | some e => if (doF r e).2 = true then runF k (doF r e).1 (cs ++ [e]) else (5, cs ++ [e])
@[simp] theorem sFourB {r : Rst} (h : FourOk r) : specFour [⟨.one, [.c (rstF r)]⟩] = some (twoB (isFb r) (fitFb r)) := sFour h
attribute [-simp] sFour
attribute [local simp] lendO
/-- What rim.Run answers of a right graph. -/
def runG (n : Nat) (es : List (Int × Int)) : Int × List Cu :=
  if n < 4 then (2, []) else if 0 < (n : Int) ∧ minL (degF n es es.length) < 3 then (3, []) else runF (n + 1) (beginF n es) []
noncomputable def specRunR : Spec := spec1 asGr fun g => when (RightG g.1 g.2) (tro (runG g.1.toNat g.2).1 (runG g.1.toNat g.2).2)
@[simp] theorem sRunR (n : Nat) (es : List (Int × Int)) (h : RightG n es) : specRunR [gr n es] = some (tro (runG n es).1 (runG n es).2) := by
  unfold specRunR; rw [spec1_v _ _ _ _ (asGr_gr (n : Int) es)]; exact when_pos _ h
end Go.Proofs.Ytnmocjhpbobahaa.L
namespace Go.Proofs.Ytnmocjhpbobahaa.L
open Go Go.RowKit
set_option maxRecDepth 100000
end Go.Proofs.Ytnmocjhpbobahaa.L
