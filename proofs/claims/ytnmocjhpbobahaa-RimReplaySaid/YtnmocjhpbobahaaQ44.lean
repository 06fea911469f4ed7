/- T34: carcanetref03.Right. -/
import Derived.Test.YtnmocjhpbobahaaQ8
set_option linter.unusedVariables false
set_option linter.unusedSimpArgs false
set_option linter.unnecessarySimpa false
namespace Go.Proofs.Ytnmocjhpbobahaa.L
open Go Go.RowKit
set_option maxRecDepth 100000
set_option maxHeartbeats 4000000
variable {E : Env}
theorem w34 (n : Int) (es : List (Int × Int)) : ∃ c, Try.f23.body = some c ∧ RP (regOf Try.prog E 86 t23) c (argsSt 0 [gr n es]) (endsAs Try.prog Try.f23 (bv (decide (RightG n es)))) := by
  refine ⟨_, rfl, ?_⟩
  generalize hQ : endsAs Try.prog Try.f23 (bv (decide (RightG n es))) = Q
  simp only [argsSt]
  refine go ?_
  by_cases hbad : n < 0 ∨ 1000 < n ∨ 4000 < es.length
  · have hans : decide (RightG n es) = false := decide_eq_false fun h => by have := h.1; omega
    rw [hans] at hQ
    rcases (by omega : n < 0 ∨ (¬ n < 0 ∧ 1000 < n) ∨ (¬ n < 0 ∧ ¬ 1000 < n ∧ 4000 < es.length)) with h | ⟨h, h'⟩ | ⟨h, h', h''⟩
    all_goals
      refine go ?_
      show Q .ret _; refine fin_ret hQ rfl ?_
      rfl
  have h1 : ¬ n < 0 := by omega
  have h2 : ¬ 1000 < n := by omega
  have h3 : ¬ 4000 < es.length := by omega
  clear hbad
  refine go ?_
  apply rp_loop (fun k σ => ∃ i : Nat, i ≤ es.length ∧ k = es.length - i ∧ σ = [(1, ⟨.one, [.c (.bx true () [.sc (.int .i64 n), .sl false 2 () (EL es)])]⟩), (3, iv i)] ∧ ∀ x, x < i → okE n (ent es x) ∧ (0 < x → ltE (ent es (x - 1)) (ent es x))) es.length
  · exact ⟨0, by omega, by omega, rfl, by omega⟩
  rintro k σ ⟨i, hi, rfl, rfl, hno⟩
  by_cases hil : i < es.length
  case neg =>
    refine go ?_
    have : RightG n es := ⟨⟨by omega, by omega, by omega⟩, fun x hx => hno x (by omega)⟩
    show Q .ret _; refine fin_ret hQ rfl ?_
    rw [decide_eq_true this]; rfl
  by_cases hok : okE n (ent es i) ∧ (0 < i → ltE (ent es (i - 1)) (ent es i))
  case neg =>
    have hans : decide (RightG n es) = false := decide_eq_false fun h => hok (h.2 i hil)
    rw [hans] at hQ
    refine go ?_
    unfold okE ltE at hok
    rcases (by omega : (ent es i).1 < 0 ∨ (¬ (ent es i).1 < 0 ∧ n ≤ (ent es i).2) ∨ (¬ (ent es i).1 < 0 ∧ ¬ n ≤ (ent es i).2 ∧ (ent es i).2 ≤ (ent es i).1) ∨
      ((¬ (ent es i).1 < 0 ∧ ¬ n ≤ (ent es i).2 ∧ ¬ (ent es i).2 ≤ (ent es i).1) ∧ (0 < i ∧ ((ent es i).1 < (ent es (i - 1)).1 ∨ (¬ (ent es i).1 < (ent es (i - 1)).1 ∧ (ent es (i - 1)).1 = (ent es i).1 ∧ (ent es i).2 ≤ (ent es (i - 1)).2))))) with h | ⟨h, h'⟩ | ⟨h, h', h''⟩ | ⟨⟨h, h', h''⟩, h0, h3⟩
    case inr.inr.inr =>
      refine go ?_
      obtain ⟨u, rfl⟩ : ∃ u, i = u + 1 := ⟨i - 1, by omega⟩
      rw [Nat.add_sub_cancel] at h3
      rcases h3 with h3 | ⟨h3, h4, h5⟩
      all_goals
        refine go ?_
        show Q .ret _; refine fin_ret hQ rfl ?_
        rfl
    all_goals
      refine go ?_
      show Q .ret _; refine fin_ret hQ rfl ?_
      rfl
  have hnext : ∀ x, x < i + 1 → okE n (ent es x) ∧ (0 < x → ltE (ent es (x - 1)) (ent es x)) := by
    intro x hx
    rcases Nat.lt_succ_iff_lt_or_eq.1 hx with h | rfl
    · exact hno x h
    · exact hok
  unfold okE ltE at hok
  refine go ?_
  have h : ¬ (ent es i).1 < 0 ∧ ¬ n ≤ (ent es i).2 ∧ ¬ (ent es i).2 ≤ (ent es i).1 := by omega
  rcases (by omega : ¬ 0 < i ∨ (0 < i ∧ ((ent es (i - 1)).1 < (ent es i).1 ∨ (ent es (i - 1)).1 = (ent es i).1 ∧ (ent es (i - 1)).2 < (ent es i).2))) with h0 | ⟨h0, h1⟩
  · refine go ?_
    exact nxt (es.length - (i + 1)) (by omega) ⟨i + 1, by omega, by omega, rfl, hnext⟩
  obtain ⟨u, rfl⟩ : ∃ u, i = u + 1 := ⟨i - 1, by omega⟩
  rw [Nat.add_sub_cancel] at h1
  rcases h1 with h1 | ⟨h1, h2⟩
  all_goals
    refine go ?_
    exact nxt (es.length - (u + 1 + 1)) (by omega) ⟨u + 1 + 1, by omega, by omega, rfl, hnext⟩
def spec34 : Spec := spec1 asGr fun g => some (bv (decide (RightG g.1 g.2)))
theorem ok34 : SpecOk 23 spec34 := by
  intro us r h
  obtain ⟨x, g, rfl, hg, h⟩ := spec1_eq h
  obtain rfl := Option.some.inj h
  rw [asGr_eq hg]
  exact goodBy env0_ok Try.func23 rfl (Nat.le_of_ble_eq_true rfl) (by decide) (w34 g.1 g.2)
@[simp] theorem s34 (n : Int) (es : List (Int × Int)) : spec34 [gr n es] = some (bv (decide (RightG n es))) := by simp [spec34]
@[simp] theorem call34 {E : Env} {σ : St Unit} {t : Nat} {l : List Operand} : effCall Try.prog E ΩU σ t 23 l = callO E 23 t (argsOf Try.prog ΩU σ [26] l) := eff_call Try.func23 Try.params23
end Go.Proofs.Ytnmocjhpbobahaa.L
