/- R7: the law RimKeeps, its run. -/
import Derived.Test.YtnmocjhpbobahaaQ43
import Derived.Test.YtnmocjhpbobahaaQ44
import Derived.Test.YtnmocjhpbobahaaQ45
import Derived.Test.YtnmocjhpbobahaaQ46
set_option linter.unusedVariables false
set_option linter.unusedSimpArgs false
set_option linter.unnecessarySimpa false
namespace Go.Proofs.Ytnmocjhpbobahaa.L
open Go Go.RowKit
set_option maxRecDepth 100000
set_option maxHeartbeats 4000000
theorem wRimKeeps0 (n0 : Int) (l : List (Int × Int)) (p : Int) (hl : l.length ≤ 17592186043904) (he : ¬ ((runG (anyN n0 20) (anyEs n0 20 l)).1 = 1 ∨ (runG (anyN n0 20) (anyEs n0 20 l)).1 = 4 ∨ (runG (anyN n0 20) (anyEs n0 20 l)).1 = 6)) : ∃ c, Try.f7.body = some c ∧ RP (regOf Try.prog E7 159 u7) c (argsSt 0 [gr n0 l, iv p]) (endsAs Try.prog Try.f7 (bv true)) := by
  refine ⟨_, rfl, ?_⟩
  generalize hQ : endsAs Try.prog Try.f7 (bv true) = Q
  simp only [argsSt]
  have hR := any_right n0 (most := 20) (by omega) l
  have hN := (anyN_ok n0 20).1
  refine go ?_
  generalize anyEs n0 20 l = es at *
  generalize anyN n0 20 = n at *
  refine go ?_
  have kl := fun he m hm => keeps_law (n := n) (es := es) hR he (m := m) hm
  generalize hG : runG n es = g at *
  obtain ⟨e, cs⟩ := g
  simp only at kl
  have g1 : ¬ e = 1 := fun h => he (.inl h)
  have g2 : ¬ e = 4 := fun h => he (.inr (.inl h))
  have g3 : ¬ e = 6 := fun h => he (.inr (.inr h))
  refine go ?_
  show Q .ret _; refine fin_ret hQ rfl ?_
  rfl
theorem wRimKeeps (n0 : Int) (l : List (Int × Int)) (p : Int) (hl : l.length ≤ 17592186043904) : ∃ c, Try.f7.body = some c ∧ RP (regOf Try.prog E7 159 u7) c (argsSt 0 [gr n0 l, iv p]) (endsAs Try.prog Try.f7 (bv true)) := by
  by_cases he : (runG (anyN n0 20) (anyEs n0 20 l)).1 = 1 ∨ (runG (anyN n0 20) (anyEs n0 20 l)).1 = 4 ∨ (runG (anyN n0 20) (anyEs n0 20 l)).1 = 6
  · rcases he with he | he | he
    · exact wRimKeeps1 n0 l p hl he
    · exact wRimKeeps4 n0 l p hl he
    · exact wRimKeeps6 n0 l p hl he
  · exact wRimKeeps0 n0 l p hl he
theorem okShown7 : SpecOk 9 specShown7 := by
  intro us r h
  cases us with
  | nil => simp only [specShown7, Option.some.injEq] at h; subst h; exact goodShown
  | cons _ _ => cases h
theorem E7_ok : EnvOk Try.prog E7 := ext_ok (ext_ok (ext_ok (ext_ok (ext_ok (ext_ok env0_ok okShown7) ok18) okRunR) okReplayR) ok32) okDeg
theorem goodRimKeeps (n0 : Int) (l : List (Int × Int)) (p : Int) (hl : l.length ≤ 17592186043904) : Good Try.prog 7 [gr n0 l, iv p] (bv true) :=
  goodBy2 E7_ok Try.func7 rfl (Nat.le_of_ble_eq_true rfl) (by decide) (wRimKeeps n0 l p hl)
end Go.Proofs.Ytnmocjhpbobahaa.L
