/- R8: the law RimWrong, its run. -/
import Derived.Test.YtnmocjhpbobahaaQ24
import Derived.Test.YtnmocjhpbobahaaQ27
import Derived.Test.YtnmocjhpbobahaaQ28
set_option linter.unusedVariables false
set_option linter.unusedSimpArgs false
set_option linter.unnecessarySimpa false
namespace Go.Proofs.Ytnmocjhpbobahaa.L
open Go Go.RowKit
set_option maxRecDepth 100000
set_option maxHeartbeats 4000000
abbrev E8 : Env := ext (ext (ext (ext (ext (ext env0 9 specShown) 23 spec34) 13 specRunW) 15 specReplayW) 19 specRefutesW) 16 specOurs
theorem E8_ok : EnvOk Try.prog E8 := ext_ok (ext_ok (ext_ok (ext_ok (ext_ok (ext_ok env0_ok okShown) ok34) okRunW) okReplayW) okRefutesW) okOurs
theorem wRimWrong (n : Int) (es : List (Int × Int)) (e : Int) (l : List Cu) (hes : es.length ≤ 17592186043904) (hl : l.length ≤ 17592186043904) : ∃ c, Try.f8.body = some c ∧ RP (regOf Try.prog E8 70 u8) c (argsSt 0 [gr n es, tr e l]) (endsAs Try.prog Try.f8 (bv true)) := by
  refine ⟨_, rfl, ?_⟩
  generalize hQ : endsAs Try.prog Try.f8 (bv true) = Q
  simp only [argsSt]
  refine go ?_
  have h2 : (es.take (min es.length 300)).length ≤ 300 := by rw [List.length_take]; omega
  generalize es.take (min es.length 300) = es' at *
  by_cases hR : RightG n es'
  · refine go ?_
    show Q .ret _; refine fin_ret hQ rfl ?_
    rfl
  refine go ?_
  show Q .ret _; refine fin_ret hQ rfl ?_
  rfl
theorem goodRimWrong (n : Int) (es : List (Int × Int)) (e : Int) (l : List Cu) (hes : es.length ≤ 17592186043904) (hl : l.length ≤ 17592186043904) : Good Try.prog 8 [gr n es, tr e l] (bv true) :=
  goodBy2 E8_ok Try.func8 rfl (Nat.le_of_ble_eq_true rfl) (by decide) (wRimWrong n es e l hes hl)
end Go.Proofs.Ytnmocjhpbobahaa.L
