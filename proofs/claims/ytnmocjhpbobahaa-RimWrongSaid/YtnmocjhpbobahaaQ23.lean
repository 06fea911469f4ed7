/- Memo: what is known of calls with given arguments. -/
import Derived.Test.YtnmocjhpbobahaaQ10
set_option linter.unusedVariables false
set_option linter.unusedSimpArgs false
set_option linter.unnecessarySimpa false
namespace Go.Proofs.Ytnmocjhpbobahaa.L
open Go Go.RowKit
def eqV : Value → Value → Bool
  | .int .i64 a, .int .i64 b => a == b
  | .bool a, .bool b => a == b
  | .slice none 0 0, .slice none 0 0 => true
  | _, _ => false
theorem eqV_ok {a b : Value} (h : eqV a b = true) : a = b := by
  unfold eqV at h
  split at h
  · rw [beq_iff_eq] at h; rw [h]
  · rw [beq_iff_eq] at h; rw [h]
  · rfl
  · cases h
mutual
def eqC : Cell Unit → Cell Unit → Bool
  | .sc a, .sc b => eqV a b
  | .sl o s _ r, .sl o' s' _ r' => o == o' && s == s' && eqCs r r'
  | .bx o _ r, .bx o' _ r' => o == o' && eqCs r r'
  | _, _ => false
def eqCs : List (Cell Unit) → List (Cell Unit) → Bool
  | [], [] => true
  | a :: l, b :: m => eqC a b && eqCs l m
  | _, _ => false
end
mutual
theorem eqC_ok : ∀ {a b : Cell Unit}, eqC a b = true → a = b
  | .sc a, .sc b, h => by simp only [eqC] at h; rw [eqV_ok h]
  | .sl o s _ r, .sl o' s' _ r', h => by simp only [eqC, Bool.and_eq_true, beq_iff_eq] at h; rw [h.1.1, h.1.2, eqCs_ok h.2]
  | .bx o _ r, .bx o' _ r', h => by simp only [eqC, Bool.and_eq_true, beq_iff_eq] at h; rw [h.1, eqCs_ok h.2]
  | .sc _, .sl .., h => by simp [eqC] at h
  | .sc _, .bx .., h => by simp [eqC] at h
  | .sc _, .dead, h => by simp [eqC] at h
  | .sl .., .sc _, h => by simp [eqC] at h
  | .sl .., .bx .., h => by simp [eqC] at h
  | .sl .., .dead, h => by simp [eqC] at h
  | .bx .., .sc _, h => by simp [eqC] at h
  | .bx .., .sl .., h => by simp [eqC] at h
  | .bx .., .dead, h => by simp [eqC] at h
  | .dead, .sc _, h => by simp [eqC] at h
  | .dead, .sl .., h => by simp [eqC] at h
  | .dead, .bx .., h => by simp [eqC] at h
  | .dead, .dead, h => by simp [eqC] at h
theorem eqCs_ok : ∀ {l m : List (Cell Unit)}, eqCs l m = true → l = m
  | [], [], _ => rfl
  | a :: l, b :: m, h => by simp only [eqCs, Bool.and_eq_true] at h; rw [eqC_ok h.1, eqCs_ok h.2]
  | [], _ :: _, h => by simp [eqCs] at h
  | _ :: _, [], h => by simp [eqCs] at h
end
def eqS : List (SC Unit) → List (SC Unit) → Bool
  | [], [] => true
  | .c a :: l, .c b :: m => eqC a b && eqS l m
  | _, _ => false
theorem eqS_ok : ∀ {l m : List (SC Unit)}, eqS l m = true → l = m := by
  intro l m h
  induction l generalizing m with
  | nil => cases m with
    | nil => rfl
    | cons _ _ => simp [eqS] at h
  | cons a l ih => cases m with
    | nil => cases a <;> simp [eqS] at h
    | cons b m =>
      cases a with
      | c x => cases b with
        | c y => simp only [eqS, Bool.and_eq_true] at h; rw [eqC_ok h.1, ih h.2]
        | _ => simp [eqS] at h
      | _ => simp [eqS] at h
def eqA : List (SV Unit) → List (SV Unit) → Bool
  | [], [] => true
  | a :: l, b :: m => decide (a.k = b.k) && eqS a.cs b.cs && eqA l m
  | _, _ => false
theorem eqA_ok : ∀ {l m : List (SV Unit)}, eqA l m = true → l = m
  | [], [], _ => rfl
  | ⟨k, cs⟩ :: l, ⟨k', cs'⟩ :: m, h => by
    simp only [eqA, Bool.and_eq_true, decide_eq_true_eq] at h
    rw [h.1.1, eqS_ok h.1.2, eqA_ok h.2]
  | [], _ :: _, h => by simp [eqA] at h
  | _ :: _, [], h => by simp [eqA] at h
/-- One call more that is known. -/
def known (E : Env) (f : FuncId) (a : List (SV Unit)) (r : SV Unit) : Env := fun g us => if Nat.beq g f && eqA a us then some r else E g us
theorem known_ok {E : Env} (hE : EnvOk Try.prog E) {f : FuncId} {a : List (SV Unit)} {r : SV Unit} (h : GoodE Try.prog f a r) : EnvOk Try.prog (known E f a r) := by
  intro g us r' hr
  unfold known at hr
  split at hr
  · next hc =>
    simp only [Bool.and_eq_true] at hc
    obtain ⟨h1, h2⟩ := hc
    have e1 := Nat.eq_of_beq_eq_true h1
    have e2 := eqA_ok h2
    simp only [Option.some.injEq] at hr
    subst e1; subst e2; subst hr
    exact h
  · exact hE g us r' hr
end Go.Proofs.Ytnmocjhpbobahaa.L
