/- Ta: what is known of the first functions. -/
import Derived.Test.YtnmocjhpbobahaaQ8
import Derived.Test.YtnmocjhpbobahaaQ24
set_option linter.unusedVariables false
set_option linter.unusedSimpArgs false
set_option linter.unnecessarySimpa false
namespace Go.Proofs.Ytnmocjhpbobahaa.L
open Go Go.RowKit
variable {E : Env} {σ : St Unit} {t : Nat} {l : List Operand}
@[simp] theorem s26 (l : List Int) (v : Int) (h : l.length ≤ 2 ^ 59) : spec26 [ints l, iv v] = some (bv (l.contains v)) := by
  unfold spec26; rw [spec2_v (asInts_ints l) (asInt_iv v)]; exact when_pos _ h
@[simp] theorem s55 (l : List Int) (h : l.length ≤ 17592186043904) : spec55 [ints l] = some (ow (sortR l)) := by
  unfold spec55; rw [spec1_v _ _ _ _ (asInts_ints l)]; exact when_pos _ h
@[simp] theorem s19 (a b : List Int) (h : a.length ≤ 2 ^ 59) : spec19 [ints a, ints b] = some (bv (decide (a = b))) := by
  unfold spec19; rw [spec2_v (asInts_ints a) (asInts_ints b)]; exact when_pos _ h
@[simp] theorem call19 : effCall Try.prog E ΩU σ t 41 l = callO E 41 t (argsOf Try.prog ΩU σ [39, 39] l) := eff_call Try.func41 Try.params41
@[simp] theorem call26 : effCall Try.prog E ΩU σ t 66 l = callO E 66 t (argsOf Try.prog ΩU σ [39, 3] l) := eff_call Try.func66 Try.params66
@[simp] theorem call55 : effCall Try.prog E ΩU σ t 67 l = callO E 67 t (argsOf Try.prog ΩU σ [39] l) := eff_call Try.func67 Try.params67
end Go.Proofs.Ytnmocjhpbobahaa.L
