/- R29: rest.least. -/
import Derived.Test.YtnmocjhpbobahaaQ18
set_option linter.unusedVariables false
set_option linter.unusedSimpArgs false
set_option linter.unnecessarySimpa false
namespace Go.Proofs.Ytnmocjhpbobahaa.L
open Go Go.RowKit
set_option maxRecDepth 100000
set_option maxHeartbeats 4000000
def leastC (r : Rst) (a b : Nat) (c : Int) : Option Cu := if (b : Int) < c ∧ c ∈ nthR r.near a then (if (cutF r a b c.toNat).2 = true then some (cutF r a b c.toNat).1 else none) else none
def leastB (r : Rst) (a : Nat) (b : Int) : Option Cu := if b < a then none else (nthR r.near b.toNat).findSome? (leastC r a b.toNat)
def leastA (r : Rst) (a : Nat) : Option Cu := (nthR r.near a).findSome? (leastB r a)
def leastF (r : Rst) : Option Cu := (List.range r.near.length).findSome? (leastA r)
theorem fs_hit {α β : Type} {l : List α} {f : α → Option β} {i : Nat} {x : β} (hi : i < l.length) (h0 : (l.take i).findSome? f = none) (h1 : f l[i] = some x) : l.findSome? f = some x := by
  rw [← List.take_append_drop i l, List.findSome?_append, h0, List.drop_eq_getElem_cons hi, List.findSome?_cons, h1]; rfl
theorem fs_step {α β : Type} {l : List α} {f : α → Option β} {i : Nat} (hi : i < l.length) (h0 : (l.take i).findSome? f = none) (h1 : f l[i] = none) : (l.take (i + 1)).findSome? f = none := by
  rw [List.take_succ_eq_append_getElem hi, List.findSome?_append, h0, List.findSome?_cons, h1]; rfl
def cuO : Option Cu → Cu × Bool
  | some x => (x, true)
  | none => ((0, 0, 0, 0, 0, 0), false)
def LeastOk (r : Rst) : Prop := RstOk r.near.length r ∧ r.near.length ≤ 1000000
noncomputable def specLeast : Spec := fun us => match us with
  | [x] => match asRst x with
    | some r => whenC (LeastOk r) (cutB (cuO (leastF r)).1 (cuO (leastF r)).2)
    | _ => none
  | _ => none
@[simp] theorem sLeastR {r : Rst} (h : LeastOk r) : specLeast [⟨.one, [.c (rstF r)]⟩] = some (cutB (cuO (leastF r)).1 (cuO (leastF r)).2) := by
  unfold specLeast
  simp only [asRst_rst]
  exact whenC_pos _ h
@[simp] theorem callLeast {E : Env} {σ : St Unit} {t : Nat} {l : List Operand} : effCall Try.prog E ΩU σ t 29 l = callO E 29 t (argsOf Try.prog ΩU σ [63] l) := eff_call Try.func29 Try.params29
end Go.Proofs.Ytnmocjhpbobahaa.L
