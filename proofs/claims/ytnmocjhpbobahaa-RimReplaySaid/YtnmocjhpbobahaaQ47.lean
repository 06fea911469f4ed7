/- RQ: what is kept by cuts: three neighbours and more. R26: low. -/
import Derived.Test.YtnmocjhpbobahaaQ22
import Derived.Test.YtnmocjhpbobahaaQ43
import Derived.Test.YtnmocjhpbobahaaQ36
set_option linter.unusedVariables false
set_option linter.unusedSimpArgs false
set_option linter.unnecessarySimpa false
namespace Go.Proofs.Ytnmocjhpbobahaa.L
open Go Go.RowKit
set_option maxRecDepth 100000
/-- Each that is left has three neighbours and more; who is marked 1 has just three. -/
structure RstD (n : Nat) (r : Rst) : Prop extends RstI n r where
  d3 : ∀ v, v < n → nthB r.gone v = false → 3 ≤ deg r v
  lf : ∀ v, v < n → nthB r.gone v = false → nth r.mark v = 1 → deg r v = 3
end Go.Proofs.Ytnmocjhpbobahaa.L
namespace Go.Proofs.Ytnmocjhpbobahaa.L
open Go Go.RowKit
set_option maxRecDepth 100000
set_option maxHeartbeats 4000000
def specLow : Spec := spec1 asGr fun g => when (RightG g.1 g.2) (bv (decide (0 < g.1 ∧ minL (degF g.1.toNat g.2 g.2.length) < 3)))
@[simp] theorem sLow (n : Int) (es : List (Int × Int)) (h : RightG n es) : specLow [gr n es] = some (bv (decide (0 < n ∧ minL (degF n.toNat es es.length) < 3))) := by
  unfold specLow; rw [spec1_v _ _ _ _ (asGr_gr n es)]; exact when_pos _ h
@[simp] theorem callLow {E : Env} {σ : St Unit} {t : Nat} {l : List Operand} : effCall Try.prog E ΩU σ t 26 l = callO E 26 t (argsOf Try.prog ΩU σ [26] l) := eff_call Try.func26 Try.params26
end Go.Proofs.Ytnmocjhpbobahaa.L
