/- V5: the law RimRefutes, its run. -/
import Derived.Test.YtnmocjhpbobahaaZ46
import Derived.Test.YtnmocjhpbobahaaZ48
import Derived.Test.YtnmocjhpbobahaaZ38
import Derived.Test.YtnmocjhpbobahaaZ49
import Derived.Test.YtnmocjhpbobahaaZ50
set_option linter.unusedVariables false
set_option linter.unusedSimpArgs false
set_option linter.unnecessarySimpa false
namespace Go.Proofs.Ytnmocjhpbobahaa.L
open Go Go.RowKit
set_option maxRecDepth 100000
set_option maxHeartbeats 4000000
def specShownQ : Spec := fun us => match us with
  | [] => some (bv true)
  | _ => none
@[simp] theorem sShownQ : specShownQ [] = some (bv true) := rfl
@[simp] theorem callShownQ {E : Env} {σ : St Unit} {t : Nat} {l : List Operand} : effCall Try.prog E ΩU σ t 9 l = callO E 9 t (argsOf Try.prog ΩU σ [] l) := eff_call Try.func9 Try.params9
theorem okShownQ : SpecOk 9 specShownQ := by
  intro us r h
  cases us with
  | nil => simp only [specShownQ, Option.some.injEq] at h; subst h; exact goodShown
  | cons _ _ => cases h
@[simp] theorem s18w (n : Int) (l : List (Int × Int)) (hl : l.length ≤ 17592186043904) : spec18 [gr n l, iv 14] = some (gro (anyN n 14) (anyEs n 14 l)) := s18 n l 14 hl (by omega)
noncomputable abbrev EQ5 : Env := ext (ext (ext (ext (ext env0 9 specShownQ) 10 spec18) 16 specOurs) 19 specRef) 20 specRefT
attribute [local simp] List.take_of_length_le
theorem wRimRefutes (n0 : Int) (l : List (Int × Int)) (e : Int) (c : List Cu) (hl : l.length ≤ 17592186043904) (hc : c.length ≤ 17592186043904) : ∃ k, Try.f5.body = some k ∧ RP (regOf Try.prog EQ5 31 u5) k (argsSt 0 [gr n0 l, tr e c]) (endsAs Try.prog Try.f5 (bv true)) := by
  refine ⟨_, rfl, ?_⟩
  generalize hQ : endsAs Try.prog Try.f5 (bv true) = Q
  simp only [argsSt]
  have hR := any_right n0 (most := 14) (by omega) l
  have hN := (anyN_ok n0 14).1
  have hm0 : (c.take (min c.length 30)).length ≤ 30 := by rw [List.length_take]; omega
  have hm2 : (min c.length 30) ≤ 30 := by omega
  refine go ?_
  generalize anyEs n0 14 l = es at *
  generalize anyN n0 14 = n at *
  refine go ?_
  generalize c.take (min c.length 30) = m at *
  have hm1 : m.length ≤ 17592186043904 := by omega
  have hRl : RightG n es ∧ m.length ≤ 1000000 := ⟨hR, by omega⟩
  refine go ?_
  show Q .ret _; refine fin_ret hQ rfl ?_
  rfl
theorem EQ5_ok : EnvOk Try.prog EQ5 := ext_ok (ext_ok (ext_ok (ext_ok (ext_ok env0_ok okShownQ) ok18) okOurs) okRef) okRefT
theorem goodRimRefutes (n0 : Int) (l : List (Int × Int)) (e : Int) (c : List Cu) (hl : l.length ≤ 17592186043904) (hc : c.length ≤ 17592186043904) : Good Try.prog 5 [gr n0 l, tr e c] (bv true) :=
  goodBy2 EQ5_ok Try.func5 rfl (Nat.le_of_ble_eq_true rfl) (by decide) (wRimRefutes n0 l e c hl hc)
end Go.Proofs.Ytnmocjhpbobahaa.L
