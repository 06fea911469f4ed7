import Derived.Test.YtngglgkemonibaaQ8
set_option linter.unusedVariables false
set_option linter.unusedSimpArgs false
set_option linter.unnecessarySimpa false
namespace Go.Proofs.Ytngglgkemonibaa.L
open Go Go.RowKit
set_option maxRecDepth 100000
variable {E : Env}
attribute [local simp] IL_one
theorem w26 (l : List Int) (v : Int) (hlen : l.length ≤ 2 ^ 59) : ∃ c, Try.f26.body = some c ∧ RP (regOf Try.prog E 18 t26) c (argsSt 0 [ints l, iv v]) (endsAs Try.prog Try.f26 (bv (l.contains v))) := by
  refine ⟨_, rfl, ?_⟩
  generalize hQ : endsAs Try.prog Try.f26 (bv (l.contains v)) = Q
  simp only [argsSt]
  apply rp_seq
  apply rp_reg_seq
  · rfl
  · simp; rfl
  apply rp_seq
  apply rp_seq
  apply rp_reg_seq
  · rfl
  · simp; rfl
  simp
  apply rp_block
  apply rp_loop (fun k σ => ∃ i : Nat, i ≤ l.length ∧ k = l.length - i ∧ σ = [(0, ints l), (1, iv v), (5, iv i)] ∧ ∀ j < i, l.getD j 0 ≠ v) l.length
  · exact ⟨0, by omega, by omega, rfl, by omega⟩
  rintro k σ ⟨i, hi, rfl, rfl, hno⟩
  apply rp_seq
  apply rp_seq
  apply rp_reg_seq
  · rfl
  · simp; rfl
  simp
  apply rp_cond
  · simp; rfl
  by_cases hil : i < l.length
  · simp only [hil, decide_true, if_true]
    apply rp_skip
    simp
    apply rp_seq
    apply rp_block
    apply rp_seq
    apply rp_reg_seq
    · rfl
    · simp [hil]; rfl
    simp
    apply rp_cond
    · simp; rfl
    by_cases hv : l[i] = v
    · have hv' : l.getD i 0 = v := by simp [hil, hv]
      simp [hil, hv]
      apply rp_seq
      apply rp_reg_seq
      · rfl
      · simp; rfl
      simp
      apply rp_ret
      subst hQ; refine ⟨.inr rfl, _, _, rfl, ?_⟩
      have : l.contains v = true := by rw [List.contains_iff_mem]; exact hv ▸ List.getElem_mem hil
      rw [this]; rfl
    · simp [hil, hv]
      apply rp_skip
      simp
      apply rp_reg_seq
      · rfl
      · simp; rfl
      simp
      refine ⟨l.length - (i + 1), by omega, i + 1, by omega, rfl, ?_, ?_⟩
      · rw [IntWalk.i64_in _ (by omega)]; simp
      · intro j hj
        rcases Nat.lt_succ_iff_lt_or_eq.1 hj with h | rfl
        · exact hno j h
        · simpa [hil] using hv
  · simp [hil]
    apply rp_exit
    simp
    apply rp_seq
    apply rp_reg_seq
    · rfl
    · simp; rfl
    simp
    apply rp_ret
    subst hQ; refine ⟨.inr rfl, _, _, rfl, ?_⟩
    have : l.contains v = false := by
      rw [← Bool.not_eq_true, List.contains_iff_mem]
      intro hm
      obtain ⟨j, hj, he⟩ := List.getElem_of_mem hm
      exact hno j (by omega) (by simp [hj, he])
    rw [this]; rfl
def spec26 : Spec := spec2 asInts asInt fun l v => when (l.length ≤ 2 ^ 59) (bv (l.contains v))
theorem ok26 : SpecOk 26 spec26 := by
  intro us r h
  obtain ⟨x, y, l, v, rfl, hl, hv, h⟩ := spec2_eq h
  obtain ⟨hlen, rfl⟩ := when_eq h
  rw [asInts_eq hl, asInt_eq hv]
  exact goodBy env0_ok Try.func26 rfl (Nat.le_of_ble_eq_true rfl) (by decide) (w26 l v hlen)
end Go.Proofs.Ytngglgkemonibaa.L
