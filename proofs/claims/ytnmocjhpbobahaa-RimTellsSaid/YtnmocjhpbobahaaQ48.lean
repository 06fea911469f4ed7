/- U12: carcanetlaw20.theirs. -/
import Derived.Test.YtnmocjhpbobahaaQ8
import Derived.Test.YtnmocjhpbobahaaQ9
set_option linter.unusedVariables false
set_option linter.unusedSimpArgs false
set_option linter.unnecessarySimpa false
namespace Go.Proofs.Ytnmocjhpbobahaa.L
open Go Go.RowKit
set_option maxRecDepth 100000
set_option maxHeartbeats 4000000
theorem wTheirs (e : Int) (l : List Cu) (hl : l.length ≤ 17592186043904) : ∃ c, Try.f12.body = some c ∧ RP (regOf Try.prog env0 30 u12) c (argsSt 0 [tr e l]) (endsAs Try.prog Try.f12 (tro e (l.take 60))) := by
  refine ⟨_, rfl, ?_⟩
  generalize hQ : endsAs Try.prog Try.f12 (tro e (l.take 60)) = Q
  simp only [argsSt]
  refine go ?_
  apply rp_loop (fun k σ => ∃ i : Nat, i ≤ l.length ∧ i ≤ 60 ∧ k = 60 - i ∧ σ = [(1, trbx e l), (2, trobx 0 []), (3, trobx e (l.take i)), (4, iv i)]) 60
  · exact ⟨0, by omega, by omega, rfl, rfl⟩
  rintro k σ ⟨i, hi, hi60, rfl, rfl⟩
  by_cases hil : i < l.length
  case neg =>
    have e1 : l.take i = l.take 60 := by rw [List.take_of_length_le (by omega), List.take_of_length_le (by omega)]
    rw [e1]
    refine go ?_
    show Q .ret _; refine fin_ret hQ rfl ?_
    rfl
  by_cases h60 : i < 60
  case neg =>
    obtain rfl : i = 60 := by omega
    refine go ?_
    show Q .ret _; refine fin_ret hQ rfl ?_
    rfl
  have htl : (l.take i).length = i := by rw [List.length_take]; omega
  have hap : l.take (i + 1) = l.take i ++ [cuAt l i] := cuAt_take hil
  generalize l.take i = acc at htl hap
  refine go ?_
  refine nxt (60 - (i + 1)) (by omega) ⟨i + 1, by omega, by omega, rfl, ?_⟩
  rw [hap]
  rfl
def specTheirs : Spec := spec1 asTr fun x => when (x.2.length ≤ 17592186043904) (tro x.1 (x.2.take 60))
theorem okTheirs : SpecOk 12 specTheirs := by
  intro us r h
  obtain ⟨x, l, rfl, hl, h⟩ := spec1_eq h
  obtain ⟨h1, rfl⟩ := when_eq h
  rw [asTr_eq hl]
  exact goodBy2 env0_ok Try.func12 rfl (Nat.le_of_ble_eq_true rfl) (by decide) (wTheirs _ _ h1)
@[simp] theorem sTheirs (e : Int) (l : List Cu) (h : l.length ≤ 17592186043904) : specTheirs [tr e l] = some (tro e (l.take 60)) := by
  unfold specTheirs; rw [spec1_v _ _ _ _ (asTr_tr e l)]; exact when_pos _ h
@[simp] theorem callTheirs {E : Env} {σ : St Unit} {t : Nat} {l : List Operand} : effCall Try.prog E ΩU σ t 12 l = callO E 12 t (argsOf Try.prog ΩU σ [35] l) := eff_call Try.func12 Try.params12
end Go.Proofs.Ytnmocjhpbobahaa.L
