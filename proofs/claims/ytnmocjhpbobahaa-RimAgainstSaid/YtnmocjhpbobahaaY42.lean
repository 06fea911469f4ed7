/- U57: Rest.out of the document's table. -/
import Derived.Test.YtnmocjhpbobahaaY37
import Derived.Test.YtnmocjhpbobahaaY29
import Derived.Test.YtnmocjhpbobahaaY41
set_option linter.unusedVariables false
set_option linter.unusedSimpArgs false
set_option linter.unnecessarySimpa false
namespace Go.Proofs.Ytnmocjhpbobahaa.L
open Go Go.RowKit
set_option maxRecDepth 100000
set_option maxHeartbeats 4000000
def notIn (l : List Int) (x : Int) : Option Int := if l.contains x = true then none else some x
def outT (t : Tbl) (v : Nat) (l : List Int) : Int := if (nearT t v t.inn.length).length = 3 then ((nearT t v t.inn.length).findSome? (notIn l)).getD (-1) else -1
noncomputable def specOutT : Spec := fun us => match us with
  | [x, y, z] => match asTb x, asInt y, asInts z with
    | some t, some a, some l => whenC (0 ≤ a ∧ TbHas t a.toNat ∧ l.length ≤ 1000) (iv (outT t a.toNat l))
    | _, _, _ => none
  | _ => none
@[simp] theorem sOutT {t : Tbl} {a : Nat} {l : List Int} (h : TbHas t a) (hl : l.length ≤ 1000) : specOutT [⟨.one, [.c (tbF t)]⟩, iv a, ints l] = some (iv (outT t a l)) := by
  unfold specOutT
  simp only [asTb_tb, asInt_iv, asInts_ints]
  exact whenC_pos _ ⟨by omega, h, hl⟩
@[simp] theorem callOutT {E : Env} {σ : St Unit} {t : Nat} {l : List Operand} : effCall Try.prog E ΩU σ t 57 l = callO E 57 t (argsOf Try.prog ΩU σ [70, 3, 39] l) := eff_call Try.func57 Try.params57
end Go.Proofs.Ytnmocjhpbobahaa.L
