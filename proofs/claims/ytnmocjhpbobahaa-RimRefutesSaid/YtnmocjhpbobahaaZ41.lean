/- R26: low. -/
import Derived.Test.YtnmocjhpbobahaaZ34
set_option linter.unusedVariables false
set_option linter.unusedSimpArgs false
set_option linter.unnecessarySimpa false
namespace Go.Proofs.Ytnmocjhpbobahaa.L
open Go Go.RowKit
set_option maxRecDepth 100000
set_option maxHeartbeats 4000000
theorem wLow (n : Int) (es : List (Int × Int)) (hR : RightG n es) : ∃ c, Try.f26.body = some c ∧ RP (regOf Try.prog ELow 14 u26) c (argsSt 0 [gr n es]) (endsAs Try.prog Try.f26 (bv (decide (0 < n ∧ minL (degF n.toNat es es.length) < 3)))) := by
  refine ⟨_, rfl, ?_⟩
  generalize hQ : endsAs Try.prog Try.f26 (bv (decide (0 < n ∧ minL (degF n.toNat es es.length) < 3))) = Q
  simp only [argsSt]
  have hl := degF_len n.toNat es es.length
  have hb : n ≤ 1000 ∧ 0 ≤ n := by have := hR.1; omega
  by_cases h0 : 0 < n
  · rw [show decide (0 < n ∧ minL (degF n.toNat es es.length) < 3) = decide (minL (degF n.toNat es es.length) < 3) by simp [h0]] at hQ
    have h1 : 0 < (degF n.toNat es es.length).length := by omega
    have h2 : (degF n.toNat es es.length).length ≤ 17592186043904 := by omega
    refine go ?_
    show Q .ret _; refine fin_ret hQ rfl ?_
    rfl
  · rw [show decide (0 < n ∧ minL (degF n.toNat es es.length) < 3) = false by simp [h0]] at hQ
    have h1 : ¬ 0 < (degF n.toNat es es.length).length := by omega
    refine go ?_
    show Q .ret _; refine fin_ret hQ rfl ?_
    rfl
def specLow : Spec := spec1 asGr fun g => when (RightG g.1 g.2) (bv (decide (0 < g.1 ∧ minL (degF g.1.toNat g.2 g.2.length) < 3)))
theorem okLow : SpecOk 26 specLow := by
  intro us r h
  obtain ⟨x, l, rfl, hl, h⟩ := spec1_eq h
  obtain ⟨h1, rfl⟩ := when_eq h
  rw [asGr_eq hl]
  exact goodBy2 ELow_ok Try.func26 rfl (Nat.le_of_ble_eq_true rfl) (by decide) (wLow _ _ h1)
@[simp] theorem sLow (n : Int) (es : List (Int × Int)) (h : RightG n es) : specLow [gr n es] = some (bv (decide (0 < n ∧ minL (degF n.toNat es es.length) < 3))) := by
  unfold specLow; rw [spec1_v _ _ _ _ (asGr_gr n es)]; exact when_pos _ h
@[simp] theorem callLow {E : Env} {σ : St Unit} {t : Nat} {l : List Operand} : effCall Try.prog E ΩU σ t 26 l = callO E 26 t (argsOf Try.prog ΩU σ [26] l) := eff_call Try.func26 Try.params26
end Go.Proofs.Ytnmocjhpbobahaa.L
