/- Grow: slices.Grow at nil answers an empty row of its own. -/
import Derived.WalkKit
import Derived.WalkSpells
import Derived.OwnWalk
import Derived.BigQuiet
import Derived.Test.YtnmocjhpbobahaaQ7
set_option linter.unusedVariables false
set_option linter.unusedSimpArgs false
set_option linter.unnecessarySimpa false
namespace Go.Proofs.Ytnmocjhpbobahaa.L
open Go Go.RowKit
set_option linter.unusedVariables false
set_option maxHeartbeats 2000000

theorem mapG2 {α β : Type} {f : α → β} {l : List α} {a b : β} (h : l.map f = [a, b]) : ∃ x y, l = [x, y] ∧ f x = a ∧ f y = b := by
  match l, h with
  | [x, y], h => simp only [List.map_cons, List.map_nil, List.cons.injEq, and_true] at h; exact ⟨x, y, rfl, h.1, h.2⟩
  | [], h => simp at h
  | [_], h => simp at h
  | _ :: _ :: _ :: _, h => simp at h
theorem sc_bare {k : Kd} {cs : List GC} {v : Value} (h : bare k cs = ⟨.one, [.c (.sc v)]⟩) : k = .one ∧ cs = [.sc v] := by
  simp only [bare, SV.mk.injEq] at h
  refine ⟨h.1, ?_⟩
  have h2 := h.2
  match cs, h2 with
  | [c], h2 =>
    simp only [List.map_cons, List.map_nil, List.cons.injEq, SC.c.injEq, and_true] at h2
    cases c <;> simp_all [Cell.erase]
  | [], h2 => simp at h2
  | _ :: _ :: _, h2 => simp at h2
theorem grow_ok (n : Nat) (hn : n < 17592186044416) : Good Try.prog 92 [nilMark, iv n] (ow []) := by
  refine ⟨⟨_, Try.func92, rfl, by decide⟩, fun w gs hgs hh => ?_⟩
  obtain ⟨g1, g2, rfl, e1, e2⟩ := mapG2 hgs
  obtain ⟨k1, c1⟩ := g1
  obtain ⟨k2, c2⟩ := g2
  have hc1 : k1 = .one ∧ c1 = [.sc (.slice none 0 0)] := sc_bare e1
  have hc2 : k2 = .one ∧ c2 = [.sc (.int .i64 n)] := sc_bare e2
  obtain ⟨rfl, rfl⟩ := hc1
  obtain ⟨rfl, rfl⟩ := hc2
  show Calls Try.prog 92 #[.slice none 0 0, .int .i64 n] w _
  have h0 : decide ((n : Int) < 0) = false := decide_eq_false (by omega)
  have h00 : ¬ (n : Int) < 0 := by omega
  by_cases hz : n = 0
  · subst hz
    go_enter Try.func92, Try.ntmps92
    go_wp2
    go_ret
    exact ⟨.one, [.sl true 1 gnil []], rfl, rfl, Below.refl _ _, ⟨⟨⟨by decide, rfl, by decide, by simp⟩, ⟨rfl, rfl⟩, trivial⟩, trivial⟩, by simp [footL, foot, blockOf, gnil], by simp [Cell.isDead]⟩
  · have hp : 0 < n := by omega
    have hp2 : (0 : Int) < (n : Int) := by omega
    clear hz
    go_enter Try.func92, Try.ntmps92
    have hb : Try.t3.bytes = 8 := rfl
    have hns : Builtin.nextslicecap n 0 = n := by unfold Builtin.nextslicecap; rw [if_pos (by omega)]
    have hg := grownCap_ge w n 0 3
    unfold grownCap at hg
    go_wp2
    all_goals (try simp only [hb, hns] at *)
    all_goals (try (exfalso; omega))
    go_ret
    generalize (Question.appendCap n 0 3).cut (w.tape w.drawn (Question.appendCap n 0 3)) = cap at *
    refine ⟨.one, [.sl true 1 ⟨some ⟨w.heap.size, 0, none⟩, cap⟩ []], rfl, rfl, ⟨rfl, rfl, rfl, by simp, fun k hk => Below.heap_alloc _ _ _ hk⟩, ⟨⟨⟨by decide, rfl, Nat.zero_le _, by simp⟩, ⟨fun _ => rfl, by simp, ?_⟩, trivial⟩, trivial⟩, by simp [footL, foot, blockOf], by simp [Cell.isDead]⟩
    simp only [if_true]
    refine ⟨.inl (Nat.le_refl _), Nat.zero_le _, _, _, alloc_at _ _, ?_⟩
    simp [Builtin.zeroCells]
    omega
end Go.Proofs.Ytnmocjhpbobahaa.L
