/- T35: carcanetref05.Unlike. -/
import Derived.Test.YtngglgkemonibaaQ8
set_option linter.unusedVariables false
set_option linter.unusedSimpArgs false
set_option linter.unnecessarySimpa false
namespace Go.Proofs.Ytngglgkemonibaa.L
open Go Go.RowKit
set_option maxRecDepth 100000
variable {E : Env}
attribute [local simp] IL_one
theorem w35 (l : List Int) (hlen : l.length ≤ 17592186043904) : ∃ c, Try.f35.body = some c ∧ RP (regOf Try.prog E 25 t35) c (argsSt 0 [ints l]) (endsAs Try.prog Try.f35 (bv (decide l.Nodup))) := by
  refine ⟨_, rfl, ?_⟩
  generalize hQ : endsAs Try.prog Try.f35 (bv (decide l.Nodup)) = Q
  simp only [argsSt]
  refine sr rfl (by simp; rfl) ?_
  simp
  apply rp_seq
  refine sr rfl (by simp; rfl) ?_
  simp
  apply rp_block
  apply rp_loop (fun k σ => ∃ i : Nat, i ≤ l.length ∧ k = l.length - i ∧ σ = [(0, ints l), (3, iv i)] ∧ ∀ x y, x < i → y < x → l.getD x 0 ≠ l.getD y 0) l.length
  · exact ⟨0, by omega, by omega, rfl, by omega⟩
  rintro k σ ⟨i, hi, rfl, rfl, hno⟩
  apply rp_seq
  refine sr rfl (by simp; rfl) ?_
  simp
  by_cases hil : i < l.length
  case neg =>
    refine condF (by simp [hil]) ?_
    apply rp_exit
    simp
    refine sr rfl (by simp; rfl) ?_
    simp
    apply rp_ret
    subst hQ; refine ⟨.inr rfl, _, _, rfl, ?_⟩
    have : l.Nodup := by
      rw [List.nodup_iff_pairwise_ne, List.pairwise_iff_getElem]
      intro x y hx hy hxy
      have := hno y x (by omega) hxy
      simp [hx, hy] at this
      exact fun h => this h.symm
    rw [decide_eq_true this]; rfl
  refine condT (by simp [hil]) ?_
  apply rp_skip
  simp
  apply rp_seq
  apply rp_block
  refine sr rfl (by simp; rfl) ?_
  simp
  apply rp_block
  refine RP.mono (Q := fun e σ => (e = .exit 2 ∧ σ = [(0, ints l), (3, iv i), (4, iv i), (13, bv false)] ∧ ∀ y, y < i → l.getD i 0 ≠ l.getD y 0) ∨ (e = .ret ∧ σ = [(2, bv false)] ∧ ¬ l.Nodup)) ?_ ?_
  case refine_2 =>
    rintro e σ (⟨rfl, rfl, hrow⟩ | ⟨rfl, rfl, hdup⟩)
    · simp
      apply rp_reg_seq
      · rfl
      · simp; rfl
      simp
      refine ⟨l.length - (i + 1), by omega, i + 1, by omega, rfl, ?_, ?_⟩
      · rw [IntWalk.i64_in _ (by omega)]; simp
      · intro x y hx hy
        rcases Nat.lt_succ_iff_lt_or_eq.1 hx with h | rfl
        · simpa using hno x y h hy
        · simpa using hrow y hy
    · simp
      subst hQ; refine ⟨.inr rfl, _, _, rfl, ?_⟩
      rw [decide_eq_false hdup]; rfl
  apply rp_loop (fun k σ => ∃ j : Nat, j ≤ i ∧ k = i - j ∧ σ = [(0, ints l), (3, iv i), (4, iv j)] ∧ ∀ y, y < j → l.getD i 0 ≠ l.getD y 0) i
  · exact ⟨0, by omega, by omega, rfl, by omega⟩
  rintro k σ ⟨j, hj, rfl, rfl, hrow⟩
  apply rp_seq
  refine sr rfl (by simp; rfl) ?_
  simp
  by_cases hji : j < i
  case neg =>
    have : j = i := by omega
    subst this
    refine condF (by simp) ?_
    apply rp_exit
    refine .inl ⟨rfl, by simp, hrow⟩
  have hjl : j < l.length := by omega
  refine condT (by simp [hji]) ?_
  apply rp_skip
  simp
  apply rp_seq
  apply rp_block
  refine sd rfl (by simp [hil, hjl]; rfl) ?_
  simp
  by_cases hv : l[i] = l[j]
  case pos =>
    refine condT (by simp [hv]) ?_
    refine sr rfl (by simp; rfl) ?_
    simp
    apply rp_ret
    refine .inr ⟨rfl, rfl, fun hn => ?_⟩
    rw [List.nodup_iff_pairwise_ne, List.pairwise_iff_getElem] at hn
    exact hn j i hjl hil hji hv.symm
  refine condF (by simp [hv]) ?_
  apply rp_skip
  simp
  apply rp_reg_seq
  · rfl
  · simp; rfl
  simp
  refine ⟨i - (j + 1), by omega, j + 1, by omega, rfl, ?_, ?_⟩
  · rw [IntWalk.i64_in _ (by omega)]; simp
  · intro y hy
    rcases Nat.lt_succ_iff_lt_or_eq.1 hy with h | rfl
    · simpa using hrow y h
    · simpa [hil, hjl] using hv
def spec35 : Spec := spec1 asInts fun l => when (l.length ≤ 17592186043904) (bv (decide l.Nodup))
theorem ok35 : SpecOk 35 spec35 := by
  intro us r h
  obtain ⟨x, l, rfl, hl, h⟩ := spec1_eq h
  obtain ⟨hlen, rfl⟩ := when_eq h
  rw [asInts_eq hl]
  exact goodBy env0_ok Try.func35 rfl (Nat.le_of_ble_eq_true rfl) (by decide) (w35 l hlen)
end Go.Proofs.Ytngglgkemonibaa.L
