/- RSh: what is known for the runs of layer 20. Memo: what is known of calls with given arguments. Rm: runs with given arguments (printed by wip/memo.py). RSn: what must be in any case, of layer 20, is. -/
import Derived.Test.YtnmocjhpbobahaaQ12
import Derived.Test.YtnmocjhpbobahaaQ35
import Derived.Test.YtnmocjhpbobahaaQ7
set_option linter.unusedVariables false
set_option linter.unusedSimpArgs false
set_option linter.unnecessarySimpa false
namespace Go.Proofs.Ytnmocjhpbobahaa.L
open Go Go.RowKit
set_option maxRecDepth 100000
/-- What is known of the library's functions, and of graph.Right. -/
def ER : Env := ext (ext (ext (ext (ext (ext (ext (ext (ext env0 44 specMin) 45 specMax) 71 specIndex) 63 specContains) 73 specClone) 70 specBs) 75 specConcat) 21 spec32) 86 specLess
theorem ER_ok : EnvOk Try.prog ER := ext_ok (ext_ok (ext_ok (ext_ok (ext_ok (ext_ok (ext_ok (ext_ok (ext_ok env0_ok okMin) okMax) okIndex) okContains) okClone) okBs) okConcat) ok32) okLess
end Go.Proofs.Ytnmocjhpbobahaa.L
namespace Go.Proofs.Ytnmocjhpbobahaa.L
open Go Go.RowKit
def eqV : Value → Value → Bool
  | .int .i64 a, .int .i64 b => a == b
  | .bool a, .bool b => a == b
  | .slice none 0 0, .slice none 0 0 => true
  | _, _ => false
theorem eqV_ok {a b : Value} (h : eqV a b = true) : a = b := by
  unfold eqV at h
  split at h
  · rw [beq_iff_eq] at h; rw [h]
  · rw [beq_iff_eq] at h; rw [h]
  · rfl
  · cases h
mutual
def eqC : Cell Unit → Cell Unit → Bool
  | .sc a, .sc b => eqV a b
  | .sl o s _ r, .sl o' s' _ r' => o == o' && s == s' && eqCs r r'
  | .bx o _ r, .bx o' _ r' => o == o' && eqCs r r'
  | _, _ => false
def eqCs : List (Cell Unit) → List (Cell Unit) → Bool
  | [], [] => true
  | a :: l, b :: m => eqC a b && eqCs l m
  | _, _ => false
end
mutual
theorem eqC_ok : ∀ {a b : Cell Unit}, eqC a b = true → a = b
  | .sc a, .sc b, h => by simp only [eqC] at h; rw [eqV_ok h]
  | .sl o s _ r, .sl o' s' _ r', h => by simp only [eqC, Bool.and_eq_true, beq_iff_eq] at h; rw [h.1.1, h.1.2, eqCs_ok h.2]
  | .bx o _ r, .bx o' _ r', h => by simp only [eqC, Bool.and_eq_true, beq_iff_eq] at h; rw [h.1, eqCs_ok h.2]
  | .sc _, .sl .., h => by simp [eqC] at h
  | .sc _, .bx .., h => by simp [eqC] at h
  | .sc _, .dead, h => by simp [eqC] at h
  | .sl .., .sc _, h => by simp [eqC] at h
  | .sl .., .bx .., h => by simp [eqC] at h
  | .sl .., .dead, h => by simp [eqC] at h
  | .bx .., .sc _, h => by simp [eqC] at h
  | .bx .., .sl .., h => by simp [eqC] at h
  | .bx .., .dead, h => by simp [eqC] at h
  | .dead, .sc _, h => by simp [eqC] at h
  | .dead, .sl .., h => by simp [eqC] at h
  | .dead, .bx .., h => by simp [eqC] at h
  | .dead, .dead, h => by simp [eqC] at h
theorem eqCs_ok : ∀ {l m : List (Cell Unit)}, eqCs l m = true → l = m
  | [], [], _ => rfl
  | a :: l, b :: m, h => by simp only [eqCs, Bool.and_eq_true] at h; rw [eqC_ok h.1, eqCs_ok h.2]
  | [], _ :: _, h => by simp [eqCs] at h
  | _ :: _, [], h => by simp [eqCs] at h
end
def eqS : List (SC Unit) → List (SC Unit) → Bool
  | [], [] => true
  | .c a :: l, .c b :: m => eqC a b && eqS l m
  | _, _ => false
theorem eqS_ok : ∀ {l m : List (SC Unit)}, eqS l m = true → l = m := by
  intro l m h
  induction l generalizing m with
  | nil => cases m with
    | nil => rfl
    | cons _ _ => simp [eqS] at h
  | cons a l ih => cases m with
    | nil => cases a <;> simp [eqS] at h
    | cons b m =>
      cases a with
      | c x => cases b with
        | c y => simp only [eqS, Bool.and_eq_true] at h; rw [eqC_ok h.1, ih h.2]
        | _ => simp [eqS] at h
      | _ => simp [eqS] at h
def eqA : List (SV Unit) → List (SV Unit) → Bool
  | [], [] => true
  | a :: l, b :: m => decide (a.k = b.k) && eqS a.cs b.cs && eqA l m
  | _, _ => false
theorem eqA_ok : ∀ {l m : List (SV Unit)}, eqA l m = true → l = m
  | [], [], _ => rfl
  | ⟨k, cs⟩ :: l, ⟨k', cs'⟩ :: m, h => by
    simp only [eqA, Bool.and_eq_true, decide_eq_true_eq] at h
    rw [h.1.1, eqS_ok h.1.2, eqA_ok h.2]
  | [], _ :: _, h => by simp [eqA] at h
  | _ :: _, [], h => by simp [eqA] at h
/-- One call more that is known. -/
def known (E : Env) (f : FuncId) (a : List (SV Unit)) (r : SV Unit) : Env := fun g us => if Nat.beq g f && eqA a us then some r else E g us
theorem known_ok {E : Env} (hE : EnvOk Try.prog E) {f : FuncId} {a : List (SV Unit)} {r : SV Unit} (h : GoodE Try.prog f a r) : EnvOk Try.prog (known E f a r) := by
  intro g us r' hr
  unfold known at hr
  split at hr
  · next hc =>
    simp only [Bool.and_eq_true] at hc
    obtain ⟨h1, h2⟩ := hc
    have e1 := Nat.eq_of_beq_eq_true h1
    have e2 := eqA_ok h2
    simp only [Option.some.injEq] at hr
    subst e1; subst e2; subst hr
    exact h
  · exact hE g us r' hr
end Go.Proofs.Ytnmocjhpbobahaa.L
namespace Go.Proofs.Ytnmocjhpbobahaa.L
open Go Go.RowKit
set_option maxRecDepth 100000
def Rma0 : List (SV Unit) := [⟨.agg, [.c (.sc (.int .i64 (5))), .c (.sl false 2 () [.sc (.int .i64 (0)), .sc (.int .i64 (1)), .sc (.int .i64 (0)), .sc (.int .i64 (2)), .sc (.int .i64 (0)), .sc (.int .i64 (3)), .sc (.int .i64 (0)), .sc (.int .i64 (4)), .sc (.int .i64 (1)), .sc (.int .i64 (2)), .sc (.int .i64 (1)), .sc (.int .i64 (4)), .sc (.int .i64 (2)), .sc (.int .i64 (3)), .sc (.int .i64 (3)), .sc (.int .i64 (4))])]⟩]
def Rmr0 : SV Unit := ⟨.one, [.c (.sc (.bool false))]⟩
theorem Rm0 : fnRunE Try.prog (envN Try.prog tabs ER 400 6) tabs 400 26 Rma0 = some Rmr0 := by kernel_rfl
def RmE0 : Env := known ER 26 Rma0 Rmr0
theorem RmO0 : EnvOk Try.prog RmE0 := known_ok ER_ok (fnRunE_ok (envN_ok tabs_ok ER_ok 6) tabs_ok Rm0)
def Rma1 : List (SV Unit) := [⟨.one, [.c (.sl true 1 () [.sc (.int .i64 (1)), .sc (.int .i64 (2)), .sc (.int .i64 (3)), .sc (.int .i64 (4))])]⟩]
def Rmr1 : SV Unit := ⟨.tup [], [.c (.sl true 1 () [.sc (.int .i64 (1)), .sc (.int .i64 (2)), .sc (.int .i64 (3)), .sc (.int .i64 (4))])]⟩
theorem Rm1 : fnRunE Try.prog (envN Try.prog tabs RmE0 400 6) tabs 400 50 Rma1 = some Rmr1 := by kernel_rfl
def RmE1 : Env := known RmE0 50 Rma1 Rmr1
theorem RmO1 : EnvOk Try.prog RmE1 := known_ok RmO0 (fnRunE_ok (envN_ok tabs_ok RmO0 6) tabs_ok Rm1)
def Rma2 : List (SV Unit) := [⟨.one, [.c (.sl true 1 () [.sc (.int .i64 (0)), .sc (.int .i64 (2)), .sc (.int .i64 (4))])]⟩]
def Rmr2 : SV Unit := ⟨.tup [], [.c (.sl true 1 () [.sc (.int .i64 (0)), .sc (.int .i64 (2)), .sc (.int .i64 (4))])]⟩
theorem Rm2 : fnRunE Try.prog (envN Try.prog tabs RmE1 400 6) tabs 400 50 Rma2 = some Rmr2 := by kernel_rfl
def RmE2 : Env := known RmE1 50 Rma2 Rmr2
theorem RmO2 : EnvOk Try.prog RmE2 := known_ok RmO1 (fnRunE_ok (envN_ok tabs_ok RmO1 6) tabs_ok Rm2)
def Rma3 : List (SV Unit) := [⟨.one, [.c (.sl true 1 () [.sc (.int .i64 (0)), .sc (.int .i64 (1)), .sc (.int .i64 (3))])]⟩]
def Rmr3 : SV Unit := ⟨.tup [], [.c (.sl true 1 () [.sc (.int .i64 (0)), .sc (.int .i64 (1)), .sc (.int .i64 (3))])]⟩
theorem Rm3 : fnRunE Try.prog (envN Try.prog tabs RmE2 400 6) tabs 400 50 Rma3 = some Rmr3 := by kernel_rfl
def RmE3 : Env := known RmE2 50 Rma3 Rmr3
theorem RmO3 : EnvOk Try.prog RmE3 := known_ok RmO2 (fnRunE_ok (envN_ok tabs_ok RmO2 6) tabs_ok Rm3)
def Rma4 : List (SV Unit) := [⟨.agg, [.c (.sc (.int .i64 (5))), .c (.sl false 2 () [.sc (.int .i64 (0)), .sc (.int .i64 (1)), .sc (.int .i64 (0)), .sc (.int .i64 (2)), .sc (.int .i64 (0)), .sc (.int .i64 (3)), .sc (.int .i64 (0)), .sc (.int .i64 (4)), .sc (.int .i64 (1)), .sc (.int .i64 (2)), .sc (.int .i64 (1)), .sc (.int .i64 (4)), .sc (.int .i64 (2)), .sc (.int .i64 (3)), .sc (.int .i64 (3)), .sc (.int .i64 (4))])]⟩]
def Rmr4 : SV Unit := ⟨.one, [.c (.bx true () [.sl true 1 () [.sl true 1 () [.sc (.int .i64 (1)), .sc (.int .i64 (2)), .sc (.int .i64 (3)), .sc (.int .i64 (4))], .sl true 1 () [.sc (.int .i64 (0)), .sc (.int .i64 (2)), .sc (.int .i64 (4))], .sl true 1 () [.sc (.int .i64 (0)), .sc (.int .i64 (1)), .sc (.int .i64 (3))], .sl true 1 () [.sc (.int .i64 (0)), .sc (.int .i64 (2)), .sc (.int .i64 (4))], .sl true 1 () [.sc (.int .i64 (0)), .sc (.int .i64 (1)), .sc (.int .i64 (3))]], .sl true 1 () [.sc (.int .i64 (0)), .sc (.int .i64 (0)), .sc (.int .i64 (0)), .sc (.int .i64 (0)), .sc (.int .i64 (0))], .sl true 1 () [.sc (.bool false), .sc (.bool false), .sc (.bool false), .sc (.bool false), .sc (.bool false)], .sc (.int .i64 (5))])]⟩
theorem Rm4 : fnRunE Try.prog (envN Try.prog tabs RmE3 400 6) tabs 400 27 Rma4 = some Rmr4 := by kernel_rfl
def RmE4 : Env := known RmE3 27 Rma4 Rmr4
theorem RmO4 : EnvOk Try.prog RmE4 := known_ok RmO3 (fnRunE_ok (envN_ok tabs_ok RmO3 6) tabs_ok Rm4)
def Rma5 : List (SV Unit) := [⟨.one, [.c (.bx false () [.sl false 1 () [.sl false 1 () [.sc (.int .i64 (1)), .sc (.int .i64 (2)), .sc (.int .i64 (3)), .sc (.int .i64 (4))], .sl false 1 () [.sc (.int .i64 (0)), .sc (.int .i64 (2)), .sc (.int .i64 (4))], .sl false 1 () [.sc (.int .i64 (0)), .sc (.int .i64 (1)), .sc (.int .i64 (3))], .sl false 1 () [.sc (.int .i64 (0)), .sc (.int .i64 (2)), .sc (.int .i64 (4))], .sl false 1 () [.sc (.int .i64 (0)), .sc (.int .i64 (1)), .sc (.int .i64 (3))]], .sl false 1 () [.sc (.int .i64 (0)), .sc (.int .i64 (0)), .sc (.int .i64 (0)), .sc (.int .i64 (0)), .sc (.int .i64 (0))], .sl false 1 () [.sc (.bool false), .sc (.bool false), .sc (.bool false), .sc (.bool false), .sc (.bool false)], .sc (.int .i64 (5))])]⟩]
def Rmr5 : SV Unit := ⟨.tup [none, none], [.c (.sc (.bool false)), .c (.sc (.bool true))]⟩
theorem Rm5 : fnRunE Try.prog (envN Try.prog tabs RmE4 400 6) tabs 400 28 Rma5 = some Rmr5 := by kernel_rfl
def RmE5 : Env := known RmE4 28 Rma5 Rmr5
theorem RmO5 : EnvOk Try.prog RmE5 := known_ok RmO4 (fnRunE_ok (envN_ok tabs_ok RmO4 6) tabs_ok Rm5)
def Rma6 : List (SV Unit) := [⟨.one, [.c (.bx false () [.sl false 1 () [.sl false 1 () [.sc (.int .i64 (1)), .sc (.int .i64 (2)), .sc (.int .i64 (3)), .sc (.int .i64 (4))], .sl false 1 () [.sc (.int .i64 (0)), .sc (.int .i64 (2)), .sc (.int .i64 (4))], .sl false 1 () [.sc (.int .i64 (0)), .sc (.int .i64 (1)), .sc (.int .i64 (3))], .sl false 1 () [.sc (.int .i64 (0)), .sc (.int .i64 (2)), .sc (.int .i64 (4))], .sl false 1 () [.sc (.int .i64 (0)), .sc (.int .i64 (1)), .sc (.int .i64 (3))]], .sl false 1 () [.sc (.int .i64 (0)), .sc (.int .i64 (0)), .sc (.int .i64 (0)), .sc (.int .i64 (0)), .sc (.int .i64 (0))], .sl false 1 () [.sc (.bool false), .sc (.bool false), .sc (.bool false), .sc (.bool false), .sc (.bool false)], .sc (.int .i64 (5))])]⟩, ⟨.agg, [.c (.sc (.int .i64 (0))), .c (.sc (.int .i64 (1))), .c (.sc (.int .i64 (2)))]⟩]
def Rmr6 : SV Unit := ⟨.tup [some 6, none], [.c (.sc (.int .i64 (0))), .c (.sc (.int .i64 (1))), .c (.sc (.int .i64 (2))), .c (.sc (.int .i64 (-1))), .c (.sc (.int .i64 (4))), .c (.sc (.int .i64 (3))), .c (.sc (.bool true))]⟩
theorem Rm6 : fnRunE Try.prog (envN Try.prog tabs RmE5 400 6) tabs 400 46 Rma6 = some Rmr6 := by kernel_rfl
def RmE6 : Env := known RmE5 46 Rma6 Rmr6
theorem RmO6 : EnvOk Try.prog RmE6 := known_ok RmO5 (fnRunE_ok (envN_ok tabs_ok RmO5 6) tabs_ok Rm6)
def Rma7 : List (SV Unit) := [⟨.one, [.c (.bx false () [.sl false 1 () [.sl false 1 () [.sc (.int .i64 (1)), .sc (.int .i64 (2)), .sc (.int .i64 (3)), .sc (.int .i64 (4))], .sl false 1 () [.sc (.int .i64 (0)), .sc (.int .i64 (2)), .sc (.int .i64 (4))], .sl false 1 () [.sc (.int .i64 (0)), .sc (.int .i64 (1)), .sc (.int .i64 (3))], .sl false 1 () [.sc (.int .i64 (0)), .sc (.int .i64 (2)), .sc (.int .i64 (4))], .sl false 1 () [.sc (.int .i64 (0)), .sc (.int .i64 (1)), .sc (.int .i64 (3))]], .sl false 1 () [.sc (.int .i64 (0)), .sc (.int .i64 (0)), .sc (.int .i64 (0)), .sc (.int .i64 (0)), .sc (.int .i64 (0))], .sl false 1 () [.sc (.bool false), .sc (.bool false), .sc (.bool false), .sc (.bool false), .sc (.bool false)], .sc (.int .i64 (5))])]⟩]
def Rmr7 : SV Unit := ⟨.tup [some 6, none], [.c (.sc (.int .i64 (0))), .c (.sc (.int .i64 (1))), .c (.sc (.int .i64 (2))), .c (.sc (.int .i64 (-1))), .c (.sc (.int .i64 (4))), .c (.sc (.int .i64 (3))), .c (.sc (.bool true))]⟩
theorem Rm7 : fnRunE Try.prog (envN Try.prog tabs RmE6 400 6) tabs 400 29 Rma7 = some Rmr7 := by kernel_rfl
def RmE7 : Env := known RmE6 29 Rma7 Rmr7
theorem RmO7 : EnvOk Try.prog RmE7 := known_ok RmO6 (fnRunE_ok (envN_ok tabs_ok RmO6 6) tabs_ok Rm7)
def Rma8 : List (SV Unit) := [⟨.one, [.c (.bx true () [.sl true 1 () [.sl true 1 () [.sc (.int .i64 (1)), .sc (.int .i64 (2)), .sc (.int .i64 (3)), .sc (.int .i64 (4))], .sl true 1 () [.sc (.int .i64 (0)), .sc (.int .i64 (2)), .sc (.int .i64 (4))], .sl true 1 () [.sc (.int .i64 (0)), .sc (.int .i64 (1)), .sc (.int .i64 (3))], .sl true 1 () [.sc (.int .i64 (0)), .sc (.int .i64 (2)), .sc (.int .i64 (4))], .sl true 1 () [.sc (.int .i64 (0)), .sc (.int .i64 (1)), .sc (.int .i64 (3))]], .sl true 1 () [.sc (.int .i64 (0)), .sc (.int .i64 (0)), .sc (.int .i64 (0)), .sc (.int .i64 (0)), .sc (.int .i64 (0))], .sl true 1 () [.sc (.bool false), .sc (.bool false), .sc (.bool false), .sc (.bool false), .sc (.bool false)], .sc (.int .i64 (5))])]⟩, ⟨.one, [.c (.sc (.int .i64 (2)))]⟩, ⟨.one, [.c (.sc (.int .i64 (0)))]⟩]
def Rmr8 : SV Unit := ⟨.tup [], [.c (.bx true () [.sl true 1 () [.sl true 1 () [.sc (.int .i64 (1)), .sc (.int .i64 (3)), .sc (.int .i64 (4))], .sl true 1 () [.sc (.int .i64 (0)), .sc (.int .i64 (2)), .sc (.int .i64 (4))], .sl true 1 () [.sc (.int .i64 (1)), .sc (.int .i64 (3))], .sl true 1 () [.sc (.int .i64 (0)), .sc (.int .i64 (2)), .sc (.int .i64 (4))], .sl true 1 () [.sc (.int .i64 (0)), .sc (.int .i64 (1)), .sc (.int .i64 (3))]], .sl true 1 () [.sc (.int .i64 (0)), .sc (.int .i64 (0)), .sc (.int .i64 (0)), .sc (.int .i64 (0)), .sc (.int .i64 (0))], .sl true 1 () [.sc (.bool false), .sc (.bool false), .sc (.bool false), .sc (.bool false), .sc (.bool false)], .sc (.int .i64 (5))])]⟩
theorem Rm8 : fnRunE Try.prog (envN Try.prog tabs RmE7 400 6) tabs 400 74 Rma8 = some Rmr8 := by kernel_rfl
def RmE8 : Env := known RmE7 74 Rma8 Rmr8
theorem RmO8 : EnvOk Try.prog RmE8 := known_ok RmO7 (fnRunE_ok (envN_ok tabs_ok RmO7 6) tabs_ok Rm8)
def Rma9 : List (SV Unit) := [⟨.one, [.c (.bx true () [.sl true 1 () [.sl true 1 () [.sc (.int .i64 (1)), .sc (.int .i64 (3)), .sc (.int .i64 (4))], .sl true 1 () [.sc (.int .i64 (0)), .sc (.int .i64 (2)), .sc (.int .i64 (4))], .sl true 1 () [.sc (.int .i64 (1)), .sc (.int .i64 (3))], .sl true 1 () [.sc (.int .i64 (0)), .sc (.int .i64 (2)), .sc (.int .i64 (4))], .sl true 1 () [.sc (.int .i64 (0)), .sc (.int .i64 (1)), .sc (.int .i64 (3))]], .sl true 1 () [.sc (.int .i64 (0)), .sc (.int .i64 (0)), .sc (.int .i64 (0)), .sc (.int .i64 (0)), .sc (.int .i64 (0))], .sl true 1 () [.sc (.bool false), .sc (.bool false), .sc (.bool false), .sc (.bool false), .sc (.bool false)], .sc (.int .i64 (5))])]⟩, ⟨.one, [.c (.sc (.int .i64 (2)))]⟩, ⟨.one, [.c (.sc (.int .i64 (1)))]⟩]
def Rmr9 : SV Unit := ⟨.tup [], [.c (.bx true () [.sl true 1 () [.sl true 1 () [.sc (.int .i64 (1)), .sc (.int .i64 (3)), .sc (.int .i64 (4))], .sl true 1 () [.sc (.int .i64 (0)), .sc (.int .i64 (4))], .sl true 1 () [.sc (.int .i64 (3))], .sl true 1 () [.sc (.int .i64 (0)), .sc (.int .i64 (2)), .sc (.int .i64 (4))], .sl true 1 () [.sc (.int .i64 (0)), .sc (.int .i64 (1)), .sc (.int .i64 (3))]], .sl true 1 () [.sc (.int .i64 (0)), .sc (.int .i64 (0)), .sc (.int .i64 (0)), .sc (.int .i64 (0)), .sc (.int .i64 (0))], .sl true 1 () [.sc (.bool false), .sc (.bool false), .sc (.bool false), .sc (.bool false), .sc (.bool false)], .sc (.int .i64 (5))])]⟩
theorem Rm9 : fnRunE Try.prog (envN Try.prog tabs RmE8 400 6) tabs 400 74 Rma9 = some Rmr9 := by kernel_rfl
def RmE9 : Env := known RmE8 74 Rma9 Rmr9
theorem RmO9 : EnvOk Try.prog RmE9 := known_ok RmO8 (fnRunE_ok (envN_ok tabs_ok RmO8 6) tabs_ok Rm9)
def Rma10 : List (SV Unit) := [⟨.one, [.c (.bx true () [.sl true 1 () [.sl true 1 () [.sc (.int .i64 (1)), .sc (.int .i64 (3)), .sc (.int .i64 (4))], .sl true 1 () [.sc (.int .i64 (0)), .sc (.int .i64 (4))], .sl true 1 () [.sc (.int .i64 (3))], .sl true 1 () [.sc (.int .i64 (0)), .sc (.int .i64 (2)), .sc (.int .i64 (4))], .sl true 1 () [.sc (.int .i64 (0)), .sc (.int .i64 (1)), .sc (.int .i64 (3))]], .sl true 1 () [.sc (.int .i64 (0)), .sc (.int .i64 (0)), .sc (.int .i64 (0)), .sc (.int .i64 (0)), .sc (.int .i64 (0))], .sl true 1 () [.sc (.bool false), .sc (.bool false), .sc (.bool false), .sc (.bool false), .sc (.bool false)], .sc (.int .i64 (5))])]⟩, ⟨.one, [.c (.sc (.int .i64 (2)))]⟩, ⟨.one, [.c (.sc (.int .i64 (3)))]⟩]
def Rmr10 : SV Unit := ⟨.tup [], [.c (.bx true () [.sl true 1 () [.sl true 1 () [.sc (.int .i64 (1)), .sc (.int .i64 (3)), .sc (.int .i64 (4))], .sl true 1 () [.sc (.int .i64 (0)), .sc (.int .i64 (4))], .sl true 1 () [], .sl true 1 () [.sc (.int .i64 (0)), .sc (.int .i64 (4))], .sl true 1 () [.sc (.int .i64 (0)), .sc (.int .i64 (1)), .sc (.int .i64 (3))]], .sl true 1 () [.sc (.int .i64 (0)), .sc (.int .i64 (0)), .sc (.int .i64 (0)), .sc (.int .i64 (0)), .sc (.int .i64 (0))], .sl true 1 () [.sc (.bool false), .sc (.bool false), .sc (.bool false), .sc (.bool false), .sc (.bool false)], .sc (.int .i64 (5))])]⟩
theorem Rm10 : fnRunE Try.prog (envN Try.prog tabs RmE9 400 6) tabs 400 74 Rma10 = some Rmr10 := by kernel_rfl
def RmE10 : Env := known RmE9 74 Rma10 Rmr10
theorem RmO10 : EnvOk Try.prog RmE10 := known_ok RmO9 (fnRunE_ok (envN_ok tabs_ok RmO9 6) tabs_ok Rm10)
def Rma11 : List (SV Unit) := [⟨.one, [.c (.bx true () [.sl true 1 () [.sl true 1 () [.sc (.int .i64 (1)), .sc (.int .i64 (2)), .sc (.int .i64 (3)), .sc (.int .i64 (4))], .sl true 1 () [.sc (.int .i64 (0)), .sc (.int .i64 (2)), .sc (.int .i64 (4))], .sl true 1 () [.sc (.int .i64 (0)), .sc (.int .i64 (1)), .sc (.int .i64 (3))], .sl true 1 () [.sc (.int .i64 (0)), .sc (.int .i64 (2)), .sc (.int .i64 (4))], .sl true 1 () [.sc (.int .i64 (0)), .sc (.int .i64 (1)), .sc (.int .i64 (3))]], .sl true 1 () [.sc (.int .i64 (0)), .sc (.int .i64 (0)), .sc (.int .i64 (0)), .sc (.int .i64 (0)), .sc (.int .i64 (0))], .sl true 1 () [.sc (.bool false), .sc (.bool false), .sc (.bool false), .sc (.bool false), .sc (.bool false)], .sc (.int .i64 (5))])]⟩, ⟨.one, [.c (.sc (.int .i64 (2)))]⟩]
def Rmr11 : SV Unit := ⟨.tup [], [.c (.bx true () [.sl true 1 () [.sl true 1 () [.sc (.int .i64 (1)), .sc (.int .i64 (3)), .sc (.int .i64 (4))], .sl true 1 () [.sc (.int .i64 (0)), .sc (.int .i64 (4))], .sl true 1 () [], .sl true 1 () [.sc (.int .i64 (0)), .sc (.int .i64 (4))], .sl true 1 () [.sc (.int .i64 (0)), .sc (.int .i64 (1)), .sc (.int .i64 (3))]], .sl true 1 () [.sc (.int .i64 (0)), .sc (.int .i64 (0)), .sc (.int .i64 (0)), .sc (.int .i64 (0)), .sc (.int .i64 (0))], .sl true 1 () [.sc (.bool false), .sc (.bool false), .sc (.bool true), .sc (.bool false), .sc (.bool false)], .sc (.int .i64 (4))])]⟩
theorem Rm11 : fnRunE Try.prog (envN Try.prog tabs RmE10 400 6) tabs 400 54 Rma11 = some Rmr11 := by kernel_rfl
def RmE11 : Env := known RmE10 54 Rma11 Rmr11
theorem RmO11 : EnvOk Try.prog RmE11 := known_ok RmO10 (fnRunE_ok (envN_ok tabs_ok RmO10 6) tabs_ok Rm11)
def Rma12 : List (SV Unit) := [⟨.one, [.c (.bx true () [.sl true 1 () [.sl true 1 () [.sc (.int .i64 (1)), .sc (.int .i64 (3)), .sc (.int .i64 (4))], .sl true 1 () [.sc (.int .i64 (0)), .sc (.int .i64 (4))], .sl true 1 () [], .sl true 1 () [.sc (.int .i64 (0)), .sc (.int .i64 (4))], .sl true 1 () [.sc (.int .i64 (0)), .sc (.int .i64 (1)), .sc (.int .i64 (3))]], .sl true 1 () [.sc (.int .i64 (0)), .sc (.int .i64 (0)), .sc (.int .i64 (0)), .sc (.int .i64 (0)), .sc (.int .i64 (0))], .sl true 1 () [.sc (.bool false), .sc (.bool false), .sc (.bool true), .sc (.bool false), .sc (.bool false)], .sc (.int .i64 (4))])]⟩, ⟨.one, [.c (.sc (.int .i64 (1)))]⟩, ⟨.one, [.c (.sc (.int .i64 (3)))]⟩]
def Rmr12 : SV Unit := ⟨.tup [], [.c (.bx true () [.sl true 1 () [.sl true 1 () [.sc (.int .i64 (1)), .sc (.int .i64 (3)), .sc (.int .i64 (4))], .sl true 1 () [.sc (.int .i64 (0)), .sc (.int .i64 (3)), .sc (.int .i64 (4))], .sl true 1 () [], .sl true 1 () [.sc (.int .i64 (0)), .sc (.int .i64 (1)), .sc (.int .i64 (4))], .sl true 1 () [.sc (.int .i64 (0)), .sc (.int .i64 (1)), .sc (.int .i64 (3))]], .sl true 1 () [.sc (.int .i64 (0)), .sc (.int .i64 (0)), .sc (.int .i64 (0)), .sc (.int .i64 (0)), .sc (.int .i64 (0))], .sl true 1 () [.sc (.bool false), .sc (.bool false), .sc (.bool true), .sc (.bool false), .sc (.bool false)], .sc (.int .i64 (4))])]⟩
theorem Rm12 : fnRunE Try.prog (envN Try.prog tabs RmE11 400 6) tabs 400 55 Rma12 = some Rmr12 := by kernel_rfl
def RmE12 : Env := known RmE11 55 Rma12 Rmr12
theorem RmO12 : EnvOk Try.prog RmE12 := known_ok RmO11 (fnRunE_ok (envN_ok tabs_ok RmO11 6) tabs_ok Rm12)
def Rma13 : List (SV Unit) := [⟨.one, [.c (.bx true () [.sl true 1 () [.sl true 1 () [.sc (.int .i64 (1)), .sc (.int .i64 (2)), .sc (.int .i64 (3)), .sc (.int .i64 (4))], .sl true 1 () [.sc (.int .i64 (0)), .sc (.int .i64 (2)), .sc (.int .i64 (4))], .sl true 1 () [.sc (.int .i64 (0)), .sc (.int .i64 (1)), .sc (.int .i64 (3))], .sl true 1 () [.sc (.int .i64 (0)), .sc (.int .i64 (2)), .sc (.int .i64 (4))], .sl true 1 () [.sc (.int .i64 (0)), .sc (.int .i64 (1)), .sc (.int .i64 (3))]], .sl true 1 () [.sc (.int .i64 (0)), .sc (.int .i64 (0)), .sc (.int .i64 (0)), .sc (.int .i64 (0)), .sc (.int .i64 (0))], .sl true 1 () [.sc (.bool false), .sc (.bool false), .sc (.bool false), .sc (.bool false), .sc (.bool false)], .sc (.int .i64 (5))])]⟩, ⟨.agg, [.c (.sc (.int .i64 (0))), .c (.sc (.int .i64 (1))), .c (.sc (.int .i64 (2))), .c (.sc (.int .i64 (-1))), .c (.sc (.int .i64 (4))), .c (.sc (.int .i64 (3)))]⟩]
def Rmr13 : SV Unit := ⟨.one, [.c (.bx true () [.sl true 1 () [.sl true 1 () [.sc (.int .i64 (1)), .sc (.int .i64 (3)), .sc (.int .i64 (4))], .sl true 1 () [.sc (.int .i64 (0)), .sc (.int .i64 (3)), .sc (.int .i64 (4))], .sl true 1 () [], .sl true 1 () [.sc (.int .i64 (0)), .sc (.int .i64 (1)), .sc (.int .i64 (4))], .sl true 1 () [.sc (.int .i64 (0)), .sc (.int .i64 (1)), .sc (.int .i64 (3))]], .sl true 1 () [.sc (.int .i64 (2)), .sc (.int .i64 (1)), .sc (.int .i64 (0)), .sc (.int .i64 (1)), .sc (.int .i64 (1))], .sl true 1 () [.sc (.bool false), .sc (.bool false), .sc (.bool true), .sc (.bool false), .sc (.bool false)], .sc (.int .i64 (4))]), .c (.sc (.bool true))]⟩
theorem Rm13 : fnRunE Try.prog (envN Try.prog tabs RmE12 400 6) tabs 400 52 Rma13 = some Rmr13 := by kernel_rfl
def RmE13 : Env := known RmE12 52 Rma13 Rmr13
theorem RmO13 : EnvOk Try.prog RmE13 := known_ok RmO12 (fnRunE_ok (envN_ok tabs_ok RmO12 6) tabs_ok Rm13)
def Rma14 : List (SV Unit) := [⟨.one, [.c (.bx true () [.sl true 1 () [.sl true 1 () [.sc (.int .i64 (1)), .sc (.int .i64 (2)), .sc (.int .i64 (3)), .sc (.int .i64 (4))], .sl true 1 () [.sc (.int .i64 (0)), .sc (.int .i64 (2)), .sc (.int .i64 (4))], .sl true 1 () [.sc (.int .i64 (0)), .sc (.int .i64 (1)), .sc (.int .i64 (3))], .sl true 1 () [.sc (.int .i64 (0)), .sc (.int .i64 (2)), .sc (.int .i64 (4))], .sl true 1 () [.sc (.int .i64 (0)), .sc (.int .i64 (1)), .sc (.int .i64 (3))]], .sl true 1 () [.sc (.int .i64 (0)), .sc (.int .i64 (0)), .sc (.int .i64 (0)), .sc (.int .i64 (0)), .sc (.int .i64 (0))], .sl true 1 () [.sc (.bool false), .sc (.bool false), .sc (.bool false), .sc (.bool false), .sc (.bool false)], .sc (.int .i64 (5))])]⟩, ⟨.agg, [.c (.sc (.int .i64 (0))), .c (.sc (.int .i64 (1))), .c (.sc (.int .i64 (2))), .c (.sc (.int .i64 (-1))), .c (.sc (.int .i64 (4))), .c (.sc (.int .i64 (3)))]⟩]
def Rmr14 : SV Unit := ⟨.one, [.c (.bx true () [.sl true 1 () [.sl true 1 () [.sc (.int .i64 (1)), .sc (.int .i64 (3)), .sc (.int .i64 (4))], .sl true 1 () [.sc (.int .i64 (0)), .sc (.int .i64 (3)), .sc (.int .i64 (4))], .sl true 1 () [], .sl true 1 () [.sc (.int .i64 (0)), .sc (.int .i64 (1)), .sc (.int .i64 (4))], .sl true 1 () [.sc (.int .i64 (0)), .sc (.int .i64 (1)), .sc (.int .i64 (3))]], .sl true 1 () [.sc (.int .i64 (2)), .sc (.int .i64 (1)), .sc (.int .i64 (0)), .sc (.int .i64 (1)), .sc (.int .i64 (1))], .sl true 1 () [.sc (.bool false), .sc (.bool false), .sc (.bool true), .sc (.bool false), .sc (.bool false)], .sc (.int .i64 (4))]), .c (.sc (.bool true))]⟩
theorem Rm14 : fnRunE Try.prog (envN Try.prog tabs RmE13 400 6) tabs 400 30 Rma14 = some Rmr14 := by kernel_rfl
def RmE14 : Env := known RmE13 30 Rma14 Rmr14
theorem RmO14 : EnvOk Try.prog RmE14 := known_ok RmO13 (fnRunE_ok (envN_ok tabs_ok RmO13 6) tabs_ok Rm14)
def Rma15 : List (SV Unit) := [⟨.one, [.c (.bx false () [.sl false 1 () [.sl false 1 () [.sc (.int .i64 (1)), .sc (.int .i64 (3)), .sc (.int .i64 (4))], .sl false 1 () [.sc (.int .i64 (0)), .sc (.int .i64 (3)), .sc (.int .i64 (4))], .sl false 1 () [], .sl false 1 () [.sc (.int .i64 (0)), .sc (.int .i64 (1)), .sc (.int .i64 (4))], .sl false 1 () [.sc (.int .i64 (0)), .sc (.int .i64 (1)), .sc (.int .i64 (3))]], .sl false 1 () [.sc (.int .i64 (2)), .sc (.int .i64 (1)), .sc (.int .i64 (0)), .sc (.int .i64 (1)), .sc (.int .i64 (1))], .sl false 1 () [.sc (.bool false), .sc (.bool false), .sc (.bool true), .sc (.bool false), .sc (.bool false)], .sc (.int .i64 (4))])]⟩]
def Rmr15 : SV Unit := ⟨.tup [none, none], [.c (.sc (.bool true)), .c (.sc (.bool true))]⟩
theorem Rm15 : fnRunE Try.prog (envN Try.prog tabs RmE14 400 6) tabs 400 28 Rma15 = some Rmr15 := by kernel_rfl
def RmE15 : Env := known RmE14 28 Rma15 Rmr15
theorem RmO15 : EnvOk Try.prog RmE15 := known_ok RmO14 (fnRunE_ok (envN_ok tabs_ok RmO14 6) tabs_ok Rm15)
def Rma16 : List (SV Unit) := [⟨.agg, [.c (.sc (.int .i64 (5))), .c (.sl false 2 () [.sc (.int .i64 (0)), .sc (.int .i64 (1)), .sc (.int .i64 (0)), .sc (.int .i64 (2)), .sc (.int .i64 (0)), .sc (.int .i64 (3)), .sc (.int .i64 (0)), .sc (.int .i64 (4)), .sc (.int .i64 (1)), .sc (.int .i64 (2)), .sc (.int .i64 (1)), .sc (.int .i64 (4)), .sc (.int .i64 (2)), .sc (.int .i64 (3)), .sc (.int .i64 (3)), .sc (.int .i64 (4))])]⟩]
def Rmr16 : SV Unit := ⟨.agg, [.c (.sc (.int .i64 (1))), .c (.sl true 6 () [.sc (.int .i64 (0)), .sc (.int .i64 (1)), .sc (.int .i64 (2)), .sc (.int .i64 (-1)), .sc (.int .i64 (4)), .sc (.int .i64 (3))])]⟩
theorem Rm16 : fnRunE Try.prog (envN Try.prog tabs RmE15 400 6) tabs 400 13 Rma16 = some Rmr16 := by kernel_rfl
def RmE16 : Env := known RmE15 13 Rma16 Rmr16
theorem RmO16 : EnvOk Try.prog RmE16 := known_ok RmO15 (fnRunE_ok (envN_ok tabs_ok RmO15 6) tabs_ok Rm16)
def Rma17 : List (SV Unit) := [⟨.one, [.c (.bx true () [.sl true 1 () [.sl true 1 () [.sc (.int .i64 (1)), .sc (.int .i64 (2)), .sc (.int .i64 (3)), .sc (.int .i64 (4))], .sl true 1 () [.sc (.int .i64 (0)), .sc (.int .i64 (2)), .sc (.int .i64 (4))], .sl true 1 () [.sc (.int .i64 (0)), .sc (.int .i64 (1)), .sc (.int .i64 (3))], .sl true 1 () [.sc (.int .i64 (0)), .sc (.int .i64 (2)), .sc (.int .i64 (4))], .sl true 1 () [.sc (.int .i64 (0)), .sc (.int .i64 (1)), .sc (.int .i64 (3))]], .sl true 1 () [.sc (.int .i64 (0)), .sc (.int .i64 (0)), .sc (.int .i64 (0)), .sc (.int .i64 (0)), .sc (.int .i64 (0))], .sl true 1 () [.sc (.bool false), .sc (.bool false), .sc (.bool false), .sc (.bool false), .sc (.bool false)], .sc (.int .i64 (5))])]⟩, ⟨.one, [.c (.sl false 6 () [.sc (.int .i64 (0)), .sc (.int .i64 (1)), .sc (.int .i64 (2)), .sc (.int .i64 (-1)), .sc (.int .i64 (4)), .sc (.int .i64 (3))])]⟩]
def Rmr17 : SV Unit := ⟨.one, [.c (.bx true () [.sl true 1 () [.sl true 1 () [.sc (.int .i64 (1)), .sc (.int .i64 (3)), .sc (.int .i64 (4))], .sl true 1 () [.sc (.int .i64 (0)), .sc (.int .i64 (3)), .sc (.int .i64 (4))], .sl true 1 () [], .sl true 1 () [.sc (.int .i64 (0)), .sc (.int .i64 (1)), .sc (.int .i64 (4))], .sl true 1 () [.sc (.int .i64 (0)), .sc (.int .i64 (1)), .sc (.int .i64 (3))]], .sl true 1 () [.sc (.int .i64 (2)), .sc (.int .i64 (1)), .sc (.int .i64 (0)), .sc (.int .i64 (1)), .sc (.int .i64 (1))], .sl true 1 () [.sc (.bool false), .sc (.bool false), .sc (.bool true), .sc (.bool false), .sc (.bool false)], .sc (.int .i64 (4))]), .c (.sc (.int .i64 (1)))]⟩
theorem Rm17 : fnRunE Try.prog (envN Try.prog tabs RmE16 400 6) tabs 400 37 Rma17 = some Rmr17 := by kernel_rfl
def RmE17 : Env := known RmE16 37 Rma17 Rmr17
theorem RmO17 : EnvOk Try.prog RmE17 := known_ok RmO16 (fnRunE_ok (envN_ok tabs_ok RmO16 6) tabs_ok Rm17)
def Rma18 : List (SV Unit) := [⟨.one, [.c (.bx false () [.sl false 1 () [.sl false 1 () [.sc (.int .i64 (1)), .sc (.int .i64 (3)), .sc (.int .i64 (4))], .sl false 1 () [.sc (.int .i64 (0)), .sc (.int .i64 (3)), .sc (.int .i64 (4))], .sl false 1 () [], .sl false 1 () [.sc (.int .i64 (0)), .sc (.int .i64 (1)), .sc (.int .i64 (4))], .sl false 1 () [.sc (.int .i64 (0)), .sc (.int .i64 (1)), .sc (.int .i64 (3))]], .sl false 1 () [.sc (.int .i64 (2)), .sc (.int .i64 (1)), .sc (.int .i64 (0)), .sc (.int .i64 (1)), .sc (.int .i64 (1))], .sl false 1 () [.sc (.bool false), .sc (.bool false), .sc (.bool true), .sc (.bool false), .sc (.bool false)], .sc (.int .i64 (4))])]⟩]
def Rmr18 : SV Unit := ⟨.agg, [.c (.sl true 1 () [.sc (.int .i64 (0)), .sc (.int .i64 (1)), .sc (.int .i64 (3)), .sc (.int .i64 (4))]), .c (.sl true 2 () [.sc (.int .i64 (0)), .sc (.int .i64 (1)), .sc (.int .i64 (0)), .sc (.int .i64 (3)), .sc (.int .i64 (0)), .sc (.int .i64 (4)), .sc (.int .i64 (1)), .sc (.int .i64 (3)), .sc (.int .i64 (1)), .sc (.int .i64 (4)), .sc (.int .i64 (3)), .sc (.int .i64 (4))]), .c (.sl true 1 () [.sc (.int .i64 (2)), .sc (.int .i64 (1)), .sc (.int .i64 (1)), .sc (.int .i64 (1))])]⟩
theorem Rm18 : fnRunE Try.prog (envN Try.prog tabs RmE17 400 6) tabs 400 38 Rma18 = some Rmr18 := by kernel_rfl
def RmE18 : Env := known RmE17 38 Rma18 Rmr18
theorem RmO18 : EnvOk Try.prog RmE18 := known_ok RmO17 (fnRunE_ok (envN_ok tabs_ok RmO17 6) tabs_ok Rm18)
def Rma19 : List (SV Unit) := [⟨.agg, [.c (.sc (.int .i64 (5))), .c (.sl false 2 () [.sc (.int .i64 (0)), .sc (.int .i64 (1)), .sc (.int .i64 (0)), .sc (.int .i64 (2)), .sc (.int .i64 (0)), .sc (.int .i64 (3)), .sc (.int .i64 (0)), .sc (.int .i64 (4)), .sc (.int .i64 (1)), .sc (.int .i64 (2)), .sc (.int .i64 (1)), .sc (.int .i64 (4)), .sc (.int .i64 (2)), .sc (.int .i64 (3)), .sc (.int .i64 (3)), .sc (.int .i64 (4))])]⟩, ⟨.one, [.c (.sl false 6 () [.sc (.int .i64 (0)), .sc (.int .i64 (1)), .sc (.int .i64 (2)), .sc (.int .i64 (-1)), .sc (.int .i64 (4)), .sc (.int .i64 (3))])]⟩]
def Rmr19 : SV Unit := ⟨.tup [some 3, none], [.c (.sl true 1 () [.sc (.int .i64 (0)), .sc (.int .i64 (1)), .sc (.int .i64 (3)), .sc (.int .i64 (4))]), .c (.sl true 2 () [.sc (.int .i64 (0)), .sc (.int .i64 (1)), .sc (.int .i64 (0)), .sc (.int .i64 (3)), .sc (.int .i64 (0)), .sc (.int .i64 (4)), .sc (.int .i64 (1)), .sc (.int .i64 (3)), .sc (.int .i64 (1)), .sc (.int .i64 (4)), .sc (.int .i64 (3)), .sc (.int .i64 (4))]), .c (.sl true 1 () [.sc (.int .i64 (2)), .sc (.int .i64 (1)), .sc (.int .i64 (1)), .sc (.int .i64 (1))]), .c (.sc (.int .i64 (1)))]⟩
theorem Rm19 : fnRunE Try.prog (envN Try.prog tabs RmE18 400 6) tabs 400 15 Rma19 = some Rmr19 := by kernel_rfl
def RmE19 : Env := known RmE18 15 Rma19 Rmr19
theorem RmO19 : EnvOk Try.prog RmE19 := known_ok RmO18 (fnRunE_ok (envN_ok tabs_ok RmO18 6) tabs_ok Rm19)
def Rma20 : List (SV Unit) := [⟨.agg, [.c (.sc (.int .i64 (4))), .c (.sl false 2 () [.sc (.int .i64 (0)), .sc (.int .i64 (1))])]⟩]
def Rmr20 : SV Unit := ⟨.one, [.c (.sc (.bool true))]⟩
theorem Rm20 : fnRunE Try.prog (envN Try.prog tabs RmE19 400 6) tabs 400 26 Rma20 = some Rmr20 := by kernel_rfl
def RmE20 : Env := known RmE19 26 Rma20 Rmr20
theorem RmO20 : EnvOk Try.prog RmE20 := known_ok RmO19 (fnRunE_ok (envN_ok tabs_ok RmO19 6) tabs_ok Rm20)
def Rma21 : List (SV Unit) := [⟨.agg, [.c (.sc (.int .i64 (4))), .c (.sl false 2 () [.sc (.int .i64 (0)), .sc (.int .i64 (1))])]⟩]
def Rmr21 : SV Unit := ⟨.agg, [.c (.sc (.int .i64 (3))), .c (.sl true 6 () [])]⟩
theorem Rm21 : fnRunE Try.prog (envN Try.prog tabs RmE20 400 6) tabs 400 13 Rma21 = some Rmr21 := by kernel_rfl
def RmE21 : Env := known RmE20 13 Rma21 Rmr21
theorem RmO21 : EnvOk Try.prog RmE21 := known_ok RmO20 (fnRunE_ok (envN_ok tabs_ok RmO20 6) tabs_ok Rm21)
def Rma22 : List (SV Unit) := [⟨.one, [.c (.sl true 1 () [])]⟩]
def Rmr22 : SV Unit := ⟨.tup [], [.c (.sl true 1 () [])]⟩
theorem Rm22 : fnRunE Try.prog (envN Try.prog tabs RmE21 400 6) tabs 400 50 Rma22 = some Rmr22 := by kernel_rfl
def RmE22 : Env := known RmE21 50 Rma22 Rmr22
theorem RmO22 : EnvOk Try.prog RmE22 := known_ok RmO21 (fnRunE_ok (envN_ok tabs_ok RmO21 6) tabs_ok Rm22)
def Rma23 : List (SV Unit) := [⟨.agg, [.c (.sc (.int .i64 (4))), .c (.sl false 2 () [])]⟩]
def Rmr23 : SV Unit := ⟨.one, [.c (.bx true () [.sl true 1 () [.sl true 1 () [], .sl true 1 () [], .sl true 1 () [], .sl true 1 () []], .sl true 1 () [.sc (.int .i64 (0)), .sc (.int .i64 (0)), .sc (.int .i64 (0)), .sc (.int .i64 (0))], .sl true 1 () [.sc (.bool false), .sc (.bool false), .sc (.bool false), .sc (.bool false)], .sc (.int .i64 (4))])]⟩
theorem Rm23 : fnRunE Try.prog (envN Try.prog tabs RmE22 400 6) tabs 400 27 Rma23 = some Rmr23 := by kernel_rfl
def RmE23 : Env := known RmE22 27 Rma23 Rmr23
theorem RmO23 : EnvOk Try.prog RmE23 := known_ok RmO22 (fnRunE_ok (envN_ok tabs_ok RmO22 6) tabs_ok Rm23)
def Rma24 : List (SV Unit) := [⟨.agg, [.c (.sc (.int .i64 (4))), .c (.sl false 2 () [])]⟩]
def Rmr24 : SV Unit := ⟨.one, [.c (.sc (.bool true))]⟩
theorem Rm24 : fnRunE Try.prog (envN Try.prog tabs RmE23 400 6) tabs 400 26 Rma24 = some Rmr24 := by kernel_rfl
def RmE24 : Env := known RmE23 26 Rma24 Rmr24
theorem RmO24 : EnvOk Try.prog RmE24 := known_ok RmO23 (fnRunE_ok (envN_ok tabs_ok RmO23 6) tabs_ok Rm24)
def Rma25 : List (SV Unit) := [⟨.agg, [.c (.sc (.int .i64 (4))), .c (.sl false 2 () [])]⟩, ⟨.agg, [.c (.sc (.int .i64 (3))), .c (.sl false 6 () [])]⟩]
def Rmr25 : SV Unit := ⟨.one, [.c (.sc (.bool true))]⟩
theorem Rm25 : fnRunE Try.prog (envN Try.prog tabs RmE24 400 6) tabs 400 19 Rma25 = some Rmr25 := by kernel_rfl
def RmE25 : Env := known RmE24 19 Rma25 Rmr25
theorem RmO25 : EnvOk Try.prog RmE25 := known_ok RmO24 (fnRunE_ok (envN_ok tabs_ok RmO24 6) tabs_ok Rm25)
def Rma26 : List (SV Unit) := [⟨.agg, [.c (.sc (.int .i64 (5))), .c (.sl false 2 () [.sc (.int .i64 (0)), .sc (.int .i64 (1)), .sc (.int .i64 (0)), .sc (.int .i64 (2)), .sc (.int .i64 (0)), .sc (.int .i64 (3)), .sc (.int .i64 (0)), .sc (.int .i64 (4)), .sc (.int .i64 (1)), .sc (.int .i64 (2)), .sc (.int .i64 (1)), .sc (.int .i64 (4)), .sc (.int .i64 (2)), .sc (.int .i64 (3)), .sc (.int .i64 (3)), .sc (.int .i64 (4))])]⟩, ⟨.agg, [.c (.sc (.int .i64 (3))), .c (.sl false 6 () [])]⟩]
def Rmr26 : SV Unit := ⟨.one, [.c (.sc (.bool false))]⟩
theorem Rm26 : fnRunE Try.prog (envN Try.prog tabs RmE25 400 6) tabs 400 19 Rma26 = some Rmr26 := by kernel_rfl
def RmE26 : Env := known RmE25 19 Rma26 Rmr26
theorem RmO26 : EnvOk Try.prog RmE26 := known_ok RmO25 (fnRunE_ok (envN_ok tabs_ok RmO25 6) tabs_ok Rm26)
def Rma27 : List (SV Unit) := []
def Rmr27 : SV Unit := ⟨.one, [.c (.sc (.bool true))]⟩
theorem Rm27 : fnRunE Try.prog (envN Try.prog tabs RmE26 400 6) tabs 400 9 Rma27 = some Rmr27 := by kernel_rfl
end Go.Proofs.Ytnmocjhpbobahaa.L
namespace Go.Proofs.Ytnmocjhpbobahaa.L
open Go Go.RowKit
theorem goodShown : Good Try.prog 9 [] (bv true) := fnRunE_ok (envN_ok tabs_ok RmO26 6) tabs_ok Rm27
def specShown : Spec := fun us => match us with
  | [] => some (bv true)
  | _ => none
@[simp] theorem sShown : specShown [] = some (bv true) := rfl
@[simp] theorem callShown {E : Env} {σ : St Unit} {t : Nat} {l : List Operand} : effCall Try.prog E ΩU σ t 9 l = callO E 9 t (argsOf Try.prog ΩU σ [] l) := eff_call Try.func9 Try.params9
end Go.Proofs.Ytnmocjhpbobahaa.L
