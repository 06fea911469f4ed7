/- T32: graph.Right. -/
import Derived.Test.YtnmocjhpbobahaaQ10
set_option linter.unusedVariables false
set_option linter.unusedSimpArgs false
set_option linter.unnecessarySimpa false
namespace Go.Proofs.Ytnmocjhpbobahaa.L
open Go Go.RowKit
set_option maxRecDepth 100000
set_option maxHeartbeats 4000000
abbrev E32 : Env := ext env0 48 spec51
theorem w32 (n : Int) (es : List (Int × Int)) : ∃ c, Try.f21.body = some c ∧ RP (regOf Try.prog E32 60 u21) c (argsSt 0 [gr n es]) (endsAs Try.prog Try.f21 (bv (decide (RightG n es)))) := by
  refine ⟨_, rfl, ?_⟩
  generalize hQ : endsAs Try.prog Try.f21 (bv (decide (RightG n es))) = Q
  simp only [argsSt]
  refine go ?_
  by_cases hbad : n < 0 ∨ 1000 < n ∨ 4000 < es.length
  · have hans : decide (RightG n es) = false := decide_eq_false fun h => by have := h.1; omega
    rw [hans] at hQ
    rcases (by omega : n < 0 ∨ (¬ n < 0 ∧ 1000 < n) ∨ (¬ n < 0 ∧ ¬ 1000 < n ∧ 4000 < es.length)) with h | ⟨h, h'⟩ | ⟨h, h', h''⟩
    all_goals
      refine go ?_
      show Q .ret _; refine fin_ret hQ rfl ?_
      rfl
  have h1 : ¬ n < 0 := by omega
  have h2 : ¬ 1000 < n := by omega
  have h3 : ¬ 4000 < es.length := by omega
  clear hbad
  refine go ?_
  apply rp_loop (fun k σ => ∃ i : Nat, i ≤ es.length ∧ k = es.length - i ∧ σ = [(1, gbx n es), (20, ⟨.one, [.c (.sl false 2 () (EL es))]⟩), (21, iv es.length), (22, iv i)] ∧ ∀ x, x < i → okE n (ent es x) ∧ (0 < x → ltE (ent es (x - 1)) (ent es x))) es.length
  · exact ⟨0, by omega, by omega, rfl, by omega⟩
  rintro k σ ⟨i, hi, rfl, rfl, hno⟩
  by_cases hil : i < es.length
  case neg =>
    refine go ?_
    have : RightG n es := ⟨⟨by omega, by omega, by omega⟩, fun x hx => hno x (by omega)⟩
    show Q .ret _; refine fin_ret hQ rfl ?_
    rw [decide_eq_true this]; rfl
  refine go ?_
  by_cases hok : okE n (ent es i) ∧ (0 < i → ltE (ent es (i - 1)) (ent es i))
  case neg =>
    have hans : decide (RightG n es) = false := decide_eq_false fun h => hok (h.2 i hil)
    rw [hans] at hQ
    by_cases hok1 : okE n (ent es i)
    case neg =>
      unfold okE at hok1
      rcases (by omega : (ent es i).1 < 0 ∨ (¬ (ent es i).1 < 0 ∧ (ent es i).2 ≤ (ent es i).1) ∨ (¬ (ent es i).1 < 0 ∧ ¬ (ent es i).2 ≤ (ent es i).1 ∧ n ≤ (ent es i).2)) with h | ⟨h, h'⟩ | ⟨h, h', h''⟩
      all_goals
        refine go ?_
        show Q .ret _; refine fin_ret hQ rfl ?_
        rfl
    have h0 : 0 < i := by
      apply Classical.byContradiction
      intro h0
      exact hok ⟨hok1, fun h => absurd h h0⟩
    have hlt : ¬ ltE (ent es (i - 1)) (ent es i) := fun h => hok ⟨hok1, fun _ => h⟩
    unfold okE at hok1
    obtain ⟨u, rfl⟩ : ∃ u, i = u + 1 := ⟨i - 1, by omega⟩
    rw [Nat.add_sub_cancel] at hlt
    have hc : ¬ cmpI (ent es u).1 (ent es u).2 (ent es (u + 1)).1 (ent es (u + 1)).2 < 0 := fun h => hlt ((cmpI_lt _ _).1 h)
    clear hok
    refine go ?_
    show Q .ret _; refine fin_ret hQ rfl ?_
    rfl
  have hnext : ∀ x, x < i + 1 → okE n (ent es x) ∧ (0 < x → ltE (ent es (x - 1)) (ent es x)) := by
    intro x hx
    rcases Nat.lt_succ_iff_lt_or_eq.1 hx with h | rfl
    · exact hno x h
    · exact hok
  obtain ⟨hok1, hok2⟩ := hok
  unfold okE at hok1
  by_cases h0 : 0 < i
  · have hlt := hok2 h0
    obtain ⟨u, rfl⟩ : ∃ u, i = u + 1 := ⟨i - 1, by omega⟩
    rw [Nat.add_sub_cancel] at hlt
    have hc : cmpI (ent es u).1 (ent es u).2 (ent es (u + 1)).1 (ent es (u + 1)).2 < 0 := (cmpI_lt _ _).2 hlt
    clear hlt hok2
    refine go ?_
    exact nxt (es.length - (u + 1 + 1)) (by omega) ⟨u + 1 + 1, by omega, by omega, rfl, hnext⟩
  · clear hok2
    refine go ?_
    exact nxt (es.length - (i + 1)) (by omega) ⟨i + 1, by omega, by omega, rfl, hnext⟩
def spec32 : Spec := spec1 asGr fun g => some (bv (decide (RightG g.1 g.2)))
theorem ok32 : SpecOk 21 spec32 := by
  intro us r h
  obtain ⟨x, g, rfl, hg, h⟩ := spec1_eq h
  obtain rfl := Option.some.inj h
  rw [asGr_eq hg]
  exact goodBy2 (ext_ok env0_ok ok51) Try.func21 rfl (Nat.le_of_ble_eq_true rfl) (by decide) (w32 g.1 g.2)
@[simp] theorem s32 (n : Int) (es : List (Int × Int)) : spec32 [gr n es] = some (bv (decide (RightG n es))) := by simp [spec32]
@[simp] theorem call32 {E : Env} {σ : St Unit} {t : Nat} {l : List Operand} : effCall Try.prog E ΩU σ t 21 l = callO E 21 t (argsOf Try.prog ΩU σ [26] l) := eff_call Try.func21 Try.params21
end Go.Proofs.Ytnmocjhpbobahaa.L
