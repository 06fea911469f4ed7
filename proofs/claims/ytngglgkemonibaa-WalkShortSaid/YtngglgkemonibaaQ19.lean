/- Ta: what is known of the first functions. -/
import Derived.Test.YtngglgkemonibaaQ9
import Derived.Test.YtngglgkemonibaaQ14
import Derived.Test.YtngglgkemonibaaQ15
import Derived.Test.YtngglgkemonibaaQ16
import Derived.Test.YtngglgkemonibaaQ17
import Derived.Test.YtngglgkemonibaaQ18
set_option linter.unusedVariables false
set_option linter.unusedSimpArgs false
set_option linter.unnecessarySimpa false
namespace Go.Proofs.Ytngglgkemonibaa.L
open Go Go.RowKit
variable {E : Env} {σ : St Unit} {t : Nat} {l : List Operand}
@[simp] theorem s26 (l : List Int) (v : Int) (h : l.length ≤ 2 ^ 59) : spec26 [ints l, iv v] = some (bv (l.contains v)) := by
  unfold spec26; rw [spec2_v (asInts_ints l) (asInt_iv v)]; exact when_pos _ h
@[simp] theorem s55 (l : List Int) (h : l.length ≤ 17592186043904) : spec55 [ints l] = some (ow (sortR l)) := by
  unfold spec55; rw [spec1_v _ _ _ _ (asInts_ints l)]; exact when_pos _ h
@[simp] theorem s39 (a b : List Int) (h : a.length ≤ 17592186043904) : spec39 [ints a, ints b] = some (bv (lexLt a b)) := by
  unfold spec39; rw [spec2_v (asInts_ints a) (asInts_ints b)]; exact when_pos _ h
@[simp] theorem s19 (a b : List Int) (h : a.length ≤ 2 ^ 59) : spec19 [ints a, ints b] = some (bv (decide (a = b))) := by
  unfold spec19; rw [spec2_v (asInts_ints a) (asInts_ints b)]; exact when_pos _ h
@[simp] theorem s35 (a : List Int) (h : a.length ≤ 17592186043904) : spec35 [ints a] = some (bv (decide a.Nodup)) := by
  unfold spec35; rw [spec1_v _ _ _ _ (asInts_ints a)]; exact when_pos _ h
@[simp] theorem call19 : effCall Try.prog E ΩU σ t 19 l = callO E 19 t (argsOf Try.prog ΩU σ [25, 25] l) := eff_call Try.func19 Try.params19
@[simp] theorem call26 : effCall Try.prog E ΩU σ t 26 l = callO E 26 t (argsOf Try.prog ΩU σ [25, 3] l) := eff_call Try.func26 Try.params26
@[simp] theorem call35 : effCall Try.prog E ΩU σ t 35 l = callO E 35 t (argsOf Try.prog ΩU σ [25] l) := eff_call Try.func35 Try.params35
@[simp] theorem call39 : effCall Try.prog E ΩU σ t 39 l = callO E 39 t (argsOf Try.prog ΩU σ [25, 25] l) := eff_call Try.func39 Try.params39
@[simp] theorem call55 : effCall Try.prog E ΩU σ t 55 l = callO E 55 t (argsOf Try.prog ΩU σ [25] l) := eff_call Try.func55 Try.params55
end Go.Proofs.Ytngglgkemonibaa.L
