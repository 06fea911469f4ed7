/- T39: carcanetref03.Less. -/
import Derived.Test.YtngglgkemonibaaQ8
set_option linter.unusedVariables false
set_option linter.unusedSimpArgs false
set_option linter.unnecessarySimpa false
namespace Go.Proofs.Ytngglgkemonibaa.L
open Go Go.RowKit
set_option maxRecDepth 100000
variable {E : Env}
attribute [local simp] IL_one
def lexLt : List Int → List Int → Bool
  | [], [] => false
  | [], _ :: _ => true
  | _ :: _, [] => false
  | x :: xs, y :: ys => if x = y then lexLt xs ys else decide (x < y)
theorem w39 (a b : List Int) (ha : a.length ≤ 17592186043904) : ∃ c, Try.f39.body = some c ∧ RP (regOf Try.prog E 41 t39) c (argsSt 0 [ints a, ints b]) (endsAs Try.prog Try.f39 (bv (lexLt a b))) := by
  refine ⟨_, rfl, ?_⟩
  generalize hQ : endsAs Try.prog Try.f39 (bv (lexLt a b)) = Q
  simp only [argsSt]
  refine sr rfl (by simp; rfl) ?_
  simp
  apply rp_seq
  refine sr rfl (by simp; rfl) ?_
  simp
  apply rp_block
  refine RP.mono (Q := fun e σ => (e = .exit 0 ∧ (∃ w, σ = [(0, ints a), (1, ints b), (5, w), (15, bv false)]) ∧ lexLt a b = decide (a.length < b.length)) ∨ (e = .ret ∧ σ = [(4, bv (lexLt a b))])) ?_ ?_
  case refine_2 =>
    rintro e σ (⟨rfl, ⟨w, rfl⟩, h⟩ | ⟨rfl, rfl⟩)
    · simp
      refine sr rfl (by simp; rfl) ?_
      simp
      apply rp_ret
      subst hQ; refine ⟨.inr rfl, _, _, rfl, ?_⟩
      rw [h]; rfl
    · simp
      subst hQ; exact ⟨.inr rfl, _, _, rfl, rfl⟩
  apply rp_loop (fun k σ => ∃ i : Nat, i ≤ a.length ∧ i ≤ b.length ∧ k = a.length - i ∧ σ = [(0, ints a), (1, ints b), (5, iv i)] ∧ lexLt a b = lexLt (a.drop i) (b.drop i)) a.length
  · exact ⟨0, by omega, by omega, by omega, rfl, by simp⟩
  rintro k σ ⟨i, hia, hib, rfl, rfl, hlex⟩
  apply rp_seq
  by_cases h1 : i < a.length
  case neg =>
    refine sr rfl (by simp [h1]; rfl) ?_
    simp
    refine condF (by simp) ?_
    apply rp_exit
    refine .inl ⟨rfl, ⟨_, rfl⟩, ?_⟩
    rw [hlex, List.drop_of_length_le (by omega)]
    by_cases h2 : i < b.length
    · rw [List.drop_eq_getElem_cons h2]; simp [lexLt]; omega
    · rw [List.drop_of_length_le (by omega)]; simp [lexLt]; omega
  by_cases h2 : i < b.length
  case neg =>
    refine sr rfl (by simp [h1, h2]; rfl) ?_
    simp
    refine condF (by simp) ?_
    apply rp_exit
    refine .inl ⟨rfl, ⟨_, rfl⟩, ?_⟩
    rw [hlex, List.drop_of_length_le (show b.length ≤ i by omega), List.drop_eq_getElem_cons h1]; simp [lexLt]; omega
  refine sr rfl (by simp [h1, h2]; rfl) ?_
  simp
  refine condT (by simp) ?_
  apply rp_skip
  simp
  rw [List.drop_eq_getElem_cons h1, List.drop_eq_getElem_cons h2] at hlex
  apply rp_seq
  apply rp_block
  refine sd rfl (by simp [h1, h2]; rfl) ?_
  simp
  by_cases hv : a[i] = b[i]
  case neg =>
    refine condT (by simp [hv]) ?_
    refine sd rfl (by simp [h1, h2]; rfl) ?_
    simp
    apply rp_ret
    refine .inr ⟨rfl, ?_⟩
    rw [hlex]; simp [lexLt, hv]
  refine condF (by simp [hv]) ?_
  apply rp_skip
  simp
  apply rp_reg_seq
  · rfl
  · simp; rfl
  simp
  refine ⟨a.length - (i + 1), by omega, i + 1, by omega, by omega, rfl, ?_, ?_⟩
  · rw [IntWalk.i64_in _ (by omega)]; simp
  · rw [hlex]; simp [lexLt, hv]
def spec39 : Spec := spec2 asInts asInts fun a b => when (a.length ≤ 17592186043904) (bv (lexLt a b))
theorem ok39 : SpecOk 39 spec39 := by
  intro us r h
  obtain ⟨x, y, l, m, rfl, hl, hm, h⟩ := spec2_eq h
  obtain ⟨hlen, rfl⟩ := when_eq h
  rw [asInts_eq hl, asInts_eq hm]
  exact goodBy env0_ok Try.func39 rfl (Nat.le_of_ble_eq_true rfl) (by decide) (w39 l m hlen)
end Go.Proofs.Ytngglgkemonibaa.L
