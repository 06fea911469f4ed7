import Derived.Test.YtngglgkemonibaaQ8
set_option linter.unusedVariables false
set_option linter.unusedSimpArgs false
set_option linter.unnecessarySimpa false
namespace Go.Proofs.Ytngglgkemonibaa.L
open Go Go.RowKit
set_option maxRecDepth 100000
variable {E : Env}
attribute [local simp] IL_one
theorem w19 (l m : List Int) (hlen : l.length ≤ 2 ^ 59) : ∃ c, Try.f19.body = some c ∧ RP (regOf Try.prog E 26 t19) c (argsSt 0 [ints l, ints m]) (endsAs Try.prog Try.f19 (bv (decide (l = m)))) := by
  refine ⟨_, rfl, ?_⟩
  generalize hQ : endsAs Try.prog Try.f19 (bv (decide (l = m))) = Q
  simp only [argsSt]
  refine sr rfl (by simp; rfl) ?_
  simp
  apply rp_seq
  refine sr rfl (by simp; rfl) ?_
  simp
  by_cases hlm : l.length = m.length
  case neg =>
    refine condT (by simp [hlm]) ?_
    refine sr rfl (by simp; rfl) ?_
    simp
    apply rp_ret
    simp only [thenR_ret]
    subst hQ; refine ⟨.inr rfl, _, _, rfl, ?_⟩
    have : ¬ l = m := fun h => hlm (by rw [h])
    rw [decide_eq_false this]; rfl
  refine condF (by simp [hlm]) ?_
  apply rp_skip
  simp
  apply rp_seq
  refine sr rfl (by simp; rfl) ?_
  simp
  apply rp_block
  apply rp_loop (fun k σ => ∃ i : Nat, i ≤ l.length ∧ k = l.length - i ∧ σ = [(0, ints l), (1, ints m), (5, iv i)] ∧ ∀ j < i, l.getD j 0 = m.getD j 0) l.length
  · exact ⟨0, by omega, by omega, rfl, by omega⟩
  rintro k σ ⟨i, hi, rfl, rfl, hno⟩
  apply rp_seq
  refine sr rfl (by simp; rfl) ?_
  simp
  by_cases hil : i < l.length
  case pos =>
    have him : i < m.length := by omega
    refine condT (by simp [hil]) ?_
    apply rp_skip
    simp
    apply rp_seq
    apply rp_block
    refine sd rfl (by simp [hil, him]; rfl) ?_
    simp
    by_cases hv : l[i] = m[i]
    case neg =>
      refine condT (by simp [hv]) ?_
      refine sr rfl (by simp; rfl) ?_
      simp
      apply rp_ret
      simp
      subst hQ; refine ⟨.inr rfl, _, _, rfl, ?_⟩
      have : ¬ l = m := fun h => hv (by subst h; rfl)
      rw [decide_eq_false this]; rfl
    refine condF (by simp [hv]) ?_
    apply rp_skip
    simp
    apply rp_reg_seq
    · rfl
    · simp; rfl
    simp
    refine ⟨l.length - (i + 1), by omega, i + 1, by omega, rfl, ?_, ?_⟩
    · rw [IntWalk.i64_in _ (by omega)]; simp
    · intro j hj
      rcases Nat.lt_succ_iff_lt_or_eq.1 hj with h | rfl
      · exact hno j h
      · simpa [hil, him] using hv
  refine condF (by simp [hil]) ?_
  apply rp_exit
  simp
  refine sr rfl (by simp; rfl) ?_
  simp
  apply rp_ret
  subst hQ; refine ⟨.inr rfl, _, _, rfl, ?_⟩
  have : l = m := by
    refine List.ext_getElem hlm fun j h1 h2 => ?_
    have := hno j (by omega)
    simpa [h1, h2] using this
  rw [decide_eq_true this]; rfl
def spec19 : Spec := spec2 asInts asInts fun l m => when (l.length ≤ 2 ^ 59) (bv (decide (l = m)))
theorem ok19 : SpecOk 19 spec19 := by
  intro us r h
  obtain ⟨x, y, l, m, rfl, hl, hm, h⟩ := spec2_eq h
  obtain ⟨hlen, rfl⟩ := when_eq h
  rw [asInts_eq hl, asInts_eq hm]
  exact goodBy env0_ok Try.func19 rfl (Nat.le_of_ble_eq_true rfl) (by decide) (w19 l m hlen)
end Go.Proofs.Ytngglgkemonibaa.L
