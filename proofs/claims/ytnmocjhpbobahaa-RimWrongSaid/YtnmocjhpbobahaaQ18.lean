/- S10: a slice that shows something against nil. -/
import Derived.Test.YtnmocjhpbobahaaQ17
set_option linter.unusedVariables false
set_option linter.unusedSimpArgs false
set_option linter.unnecessarySimpa false
namespace Go.Proofs.Ytnmocjhpbobahaa.L
open Go Go.RowKit
def ifSome {α β : Type} : Option α → Option β → Option β
  | some _, z => z
  | none, _ => none
@[simp] theorem ifSome_none {α β : Type} (z : Option β) : ifSome (none : Option α) z = none := rfl
@[simp] theorem eff_nileq (P : Program) (x : Nat × SV Unit) (σ : St Unit) (t s : Nat) (d : Option Nat) (op : BinOp) (ty yt rt : TypeId) (pos : String) (af : Array Edge) (g : Option (Nat × Bool)) :
    effPure P (x :: σ) t ⟨d, .binOp op ty (.tmp s) (.const (.slice none 0 0)) yt, rt, pos, af, g⟩ = ifSome (valOf (x :: σ) (.tmp s)) (effZ P (x :: σ) t ⟨d, .binOp op ty (.tmp s) (.const (.slice none 0 0)) yt, rt, pos, af, g⟩) := by
  cases h : valOf (x :: σ) (.tmp s) with
  | some v => rfl
  | none =>
    unfold effPure
    rw [if_neg]
    · rfl
    · intro hc
      simp only [Bool.and_eq_true, List.all_eq_true] at hc
      have := hc.2 (.tmp s) (List.mem_cons_self)
      rw [h] at this
      cases this
attribute [simp] effNilCmp
@[simp] theorem eff_fieldp (P : Program) (x : Nat × SV Unit) (σ : St Unit) (t s f : Nat) (d : Option Nat) (ty rt : TypeId) (pos : String) (af : Array Edge) (g : Option (Nat × Bool)) :
    effPure P (x :: σ) t ⟨d, .field ty (.tmp s) f, rt, pos, af, g⟩ = ifSome (valOf (x :: σ) (.tmp s)) (effZ P (x :: σ) t ⟨d, .field ty (.tmp s) f, rt, pos, af, g⟩) := by
  cases h : valOf (x :: σ) (.tmp s) with
  | some v => rfl
  | none =>
    unfold effPure
    rw [if_neg]
    · rfl
    · intro hc
      simp only [Bool.and_eq_true, List.all_eq_true] at hc
      have := hc.2 (.tmp s) (List.mem_cons_self)
      rw [h] at this
      cases this
attribute [simp] effField
/-! ### a call whose first argument is a nil that is written -/
def callNilO (E : Env) (f t : Nat) : Option (List (SV Unit)) → Option (Eff Unit)
  | some l => resO t (E f (nilMark :: l))
  | none => none
@[simp] theorem callNilO_some (E : Env) (f t : Nat) (l : List (SV Unit)) : callNilO E f t (some l) = resO t (E f (nilMark :: l)) := rfl
theorem eff_callNil {E : Env} {σ : St Unit} {t : Nat} {f : FuncId} {fn : Func} {ts : Array TypeId} {args : List Operand} (hf : Try.prog.funcs[f]? = some fn) (hp : fn.params = ts) : effCallNil Try.prog E ΩU σ t f (.const (.slice none 0 0) :: args) = callNilO E f t (argsOf Try.prog ΩU σ ts.toList.tail args) := by
  simp only [effCallNil, hf, hp]
  cases argsOf Try.prog ΩU σ ts.toList.tail args with
  | none => rfl
  | some l => simp only [callNilO]; cases E f (nilMark :: l) <;> rfl
@[simp] theorem effLend_const (P : Program) (E : Env) (Ω : Orc Unit) (σ : St Unit) (t f : Nat) (v : Value) (args : List Operand) : effLend P E Ω σ t f (.const v :: args) = none := by
  unfold effLend
  split <;> first | rfl | simp_all
@[simp] theorem resO_none (t : Nat) : resO t none = none := rfl
end Go.Proofs.Ytnmocjhpbobahaa.L
