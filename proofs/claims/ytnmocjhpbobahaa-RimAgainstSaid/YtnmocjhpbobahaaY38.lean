/- U40: Rest.State of the document's table. -/
import Derived.Test.YtnmocjhpbobahaaY37
import Derived.Test.YtnmocjhpbobahaaY18
set_option linter.unusedVariables false
set_option linter.unusedSimpArgs false
set_option linter.unnecessarySimpa false
namespace Go.Proofs.Ytnmocjhpbobahaa.L
open Go Go.RowKit
set_option maxRecDepth 100000
set_option maxHeartbeats 4000000
attribute [local simp] bT bF
def leftT (t : Tbl) : Nat → List Int
  | 0 => []
  | i + 1 => if nthB t.inn i = true then leftT t i ++ [(i : Int)] else leftT t i
def marksT (t : Tbl) : Nat → List Int
  | 0 => []
  | i + 1 => if nthB t.inn i = true then marksT t i ++ [nth t.mark i] else marksT t i
/-- The edges from v up, of the j from v + 1 on. -/
def upT (t : Tbl) (v : Nat) : Nat → List (Int × Int)
  | 0 => []
  | j + 1 => if nthB t.inn (v + 1 + j) = true ∧ nthB (nthT t.adj v) (v + 1 + j) = true then upT t v j ++ [((v : Int), ((v + 1 + j : Nat) : Int))] else upT t v j
def edgesT (t : Tbl) (n : Nat) : Nat → List (Int × Int)
  | 0 => []
  | i + 1 => if nthB t.inn i = true then edgesT t n i ++ upT t i (n - (i + 1)) else edgesT t n i
def StateT (t : Tbl) : Prop := TbOk t.inn.length t ∧ t.inn.length ≤ 1000
noncomputable def specStateT : Spec := fun us => match us with
  | [x] => match asTb x with
    | some t => whenC (StateT t) (stV (leftT t t.inn.length) (edgesT t t.inn.length t.inn.length) (marksT t t.inn.length))
    | _ => none
  | _ => none
@[simp] theorem sStateT {t : Tbl} (h : StateT t) : specStateT [⟨.one, [.c (tbF t)]⟩] = some (stV (leftT t t.inn.length) (edgesT t t.inn.length t.inn.length) (marksT t t.inn.length)) := by
  unfold specStateT
  simp only [asTb_tb]
  exact whenC_pos _ h
@[simp] theorem callStateT {E : Env} {σ : St Unit} {t : Nat} {l : List Operand} : effCall Try.prog E ΩU σ t 40 l = callO E 40 t (argsOf Try.prog ΩU σ [70] l) := eff_call Try.func40 Try.params40
end Go.Proofs.Ytnmocjhpbobahaa.L
