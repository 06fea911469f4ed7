/- U61d: Rest.small of the document's table (printed by wip/gensmall.py). -/
import Derived.Test.YtnmocjhpbobahaaQ31
set_option linter.unusedVariables false
set_option linter.unusedSimpArgs false
set_option linter.unnecessarySimpa false
namespace Go.Proofs.Ytnmocjhpbobahaa.L
open Go Go.RowKit
set_option maxRecDepth 100000
set_option maxHeartbeats 4000000
attribute [local simp] lendO innT_t innT_f
abbrev l2S (t : Tbl) (a b c p q s : Nat) (i1 i2 zz i : Int) : St Unit := [(0, smO t), (3, cuBx a b c p q s), (5, o3 a b c), (6, o3 p q s), (7, iv i1), (8, iv i2), (10, iv zz), (11, iv i)]
theorem topM_t {m : List Int} {i2 i1 : Int} {v : Nat} (h : nth m v = 2 ∨ (i2 = 0 ∧ i1 = 2 ∧ nth m v = 0)) : topM m i2 i1 v = true := decide_eq_true h
theorem topM_f {m : List Int} {i2 i1 : Int} {v : Nat} (h : ¬ (nth m v = 2 ∨ (i2 = 0 ∧ i1 = 2 ∧ nth m v = 0))) : topM m i2 i1 v = false := decide_eq_false h
def zA (m : List Int) (i2 i1 : Int) (a : Nat) : Int := if topM m i2 i1 a = true then 0 else -1
def zB (m : List Int) (i2 i1 : Int) (a b : Nat) : Int := if topM m i2 i1 b = true then 1 else zA m i2 i1 a
def zC (m : List Int) (i2 i1 : Int) (a b c : Nat) : Int := if topM m i2 i1 c = true then 2 else zB m i2 i1 a b
theorem zC_rng (m : List Int) (i2 i1 : Int) (a b c : Nat) : -1 ≤ zC m i2 i1 a b c ∧ zC m i2 i1 a b c ≤ 2 := by
  unfold zC zB zA; split
  · omega
  · split
    · omega
    · split <;> omega
theorem small_2 (n : Nat) (t : Tbl) (a b c p q s : Nat) (h : SmIn n t a b c p q s) (i1 i2 : Int) {Q : Ex → St Unit → Prop} (hQ : endsAsL Try.prog Try.f61 (tbO t) (lentSV (tbO (finT t a b c p q s (toM t.mark (zC t.mark i2 i1 a b c) 0 a) (toM t.mark (zC t.mark i2 i1 a b c) 1 b) (toM t.mark (zC t.mark i2 i1 a b c) 2 c)).1) (bv (finT t a b c p q s (toM t.mark (zC t.mark i2 i1 a b c) 0 a) (toM t.mark (zC t.mark i2 i1 a b c) 1 b) (toM t.mark (zC t.mark i2 i1 a b c) 2 c)).2)) = Q) : ∀ k, (Try.f61.body.bind (sndN 7)) = some k → RP regS k [(0, smO t), (3, cuBx a b c p q s), (5, o3 a b c), (6, o3 p q s), (7, iv i1), (8, iv i2), (92, bv false)] Q := by
  intro k hk
  obtain rfl := Option.some.inj hk
  have g0 := h.tb.mark
  have ga : a < t.mark.length := by have := h.an; omega
  have gb : b < t.mark.length := by have := h.bn; omega
  have gc : c < t.mark.length := by have := h.cn; omega
  have rng := zC_rng t.mark i2 i1 a b c
  (show RP _ (.seq (.region _ _ false) _) _ _; refine gs ?_)
  refine rp_cut fun T hT hr => ?_
  refine go ?_
  apply rp_loop (fun k σ => (k = 3 ∧ σ = l2S t a b c p q s i1 i2 (-1) 0) ∨ (k = 2 ∧ σ = l2S t a b c p q s i1 i2 (zA t.mark i2 i1 a) 1) ∨ (k = 1 ∧ σ = l2S t a b c p q s i1 i2 (zB t.mark i2 i1 a b) 2) ∨ (k = 0 ∧ σ = l2S t a b c p q s i1 i2 (zC t.mark i2 i1 a b c) 3)) 3
  · exact .inl ⟨rfl, rfl⟩
  rintro k σ (⟨rfl, rfl⟩ | ⟨rfl, rfl⟩ | ⟨rfl, rfl⟩ | ⟨rfl, rfl⟩)

  · rcases (by omega : nth t.mark a = 2 ∨ (¬ nth t.mark a = 2 ∧ ¬ i2 = 0) ∨ (¬ nth t.mark a = 2 ∧ i2 = 0 ∧ ¬ i1 = 2) ∨ (¬ nth t.mark a = 2 ∧ i2 = 0 ∧ i1 = 2 ∧ nth t.mark a = 0) ∨ (¬ nth t.mark a = 2 ∧ i2 = 0 ∧ i1 = 2 ∧ ¬ nth t.mark a = 0)) with e | ⟨e, e1⟩ | ⟨e, e1, e2⟩ | ⟨e, e1, e2, e3⟩ | ⟨e, e1, e2, e3⟩
    · clear rng
      rw [show zA t.mark i2 i1 a = 0 by unfold zA; rw [topM_t (.inl e), if_pos rfl]]
      refine go ?_
      exact nxt 2 (by omega) (.inr (.inl ⟨rfl, rfl⟩))
    · clear rng
      rw [show zA t.mark i2 i1 a = -1 by unfold zA; rw [topM_f (by omega), if_neg Bool.noConfusion]]
      refine go ?_
      exact nxt 2 (by omega) (.inr (.inl ⟨rfl, rfl⟩))
    · clear rng
      rw [show zA t.mark i2 i1 a = -1 by unfold zA; rw [topM_f (by omega), if_neg Bool.noConfusion]]
      refine go ?_
      exact nxt 2 (by omega) (.inr (.inl ⟨rfl, rfl⟩))
    · clear rng
      rw [show zA t.mark i2 i1 a = 0 by unfold zA; rw [topM_t (.inr ⟨e1, e2, e3⟩), if_pos rfl]]
      refine go ?_
      exact nxt 2 (by omega) (.inr (.inl ⟨rfl, rfl⟩))
    · clear rng
      rw [show zA t.mark i2 i1 a = -1 by unfold zA; rw [topM_f (by omega), if_neg Bool.noConfusion]]
      refine go ?_
      exact nxt 2 (by omega) (.inr (.inl ⟨rfl, rfl⟩))
  · rcases (by omega : nth t.mark b = 2 ∨ (¬ nth t.mark b = 2 ∧ ¬ i2 = 0) ∨ (¬ nth t.mark b = 2 ∧ i2 = 0 ∧ ¬ i1 = 2) ∨ (¬ nth t.mark b = 2 ∧ i2 = 0 ∧ i1 = 2 ∧ nth t.mark b = 0) ∨ (¬ nth t.mark b = 2 ∧ i2 = 0 ∧ i1 = 2 ∧ ¬ nth t.mark b = 0)) with e | ⟨e, e1⟩ | ⟨e, e1, e2⟩ | ⟨e, e1, e2, e3⟩ | ⟨e, e1, e2, e3⟩
    · clear rng
      rw [show zB t.mark i2 i1 a b = 1 by unfold zB; rw [topM_t (.inl e), if_pos rfl]]
      generalize zA t.mark i2 i1 a = Z at *
      refine go ?_
      exact nxt 1 (by omega) (.inr (.inr (.inl ⟨rfl, rfl⟩)))
    · clear rng
      rw [show zB t.mark i2 i1 a b = zA t.mark i2 i1 a by unfold zB; rw [topM_f (by omega), if_neg Bool.noConfusion]]
      generalize zA t.mark i2 i1 a = Z at *
      refine go ?_
      exact nxt 1 (by omega) (.inr (.inr (.inl ⟨rfl, rfl⟩)))
    · clear rng
      rw [show zB t.mark i2 i1 a b = zA t.mark i2 i1 a by unfold zB; rw [topM_f (by omega), if_neg Bool.noConfusion]]
      generalize zA t.mark i2 i1 a = Z at *
      refine go ?_
      exact nxt 1 (by omega) (.inr (.inr (.inl ⟨rfl, rfl⟩)))
    · clear rng
      rw [show zB t.mark i2 i1 a b = 1 by unfold zB; rw [topM_t (.inr ⟨e1, e2, e3⟩), if_pos rfl]]
      generalize zA t.mark i2 i1 a = Z at *
      refine go ?_
      exact nxt 1 (by omega) (.inr (.inr (.inl ⟨rfl, rfl⟩)))
    · clear rng
      rw [show zB t.mark i2 i1 a b = zA t.mark i2 i1 a by unfold zB; rw [topM_f (by omega), if_neg Bool.noConfusion]]
      generalize zA t.mark i2 i1 a = Z at *
      refine go ?_
      exact nxt 1 (by omega) (.inr (.inr (.inl ⟨rfl, rfl⟩)))
  · rcases (by omega : nth t.mark c = 2 ∨ (¬ nth t.mark c = 2 ∧ ¬ i2 = 0) ∨ (¬ nth t.mark c = 2 ∧ i2 = 0 ∧ ¬ i1 = 2) ∨ (¬ nth t.mark c = 2 ∧ i2 = 0 ∧ i1 = 2 ∧ nth t.mark c = 0) ∨ (¬ nth t.mark c = 2 ∧ i2 = 0 ∧ i1 = 2 ∧ ¬ nth t.mark c = 0)) with e | ⟨e, e1⟩ | ⟨e, e1, e2⟩ | ⟨e, e1, e2, e3⟩ | ⟨e, e1, e2, e3⟩
    · clear rng
      rw [show zC t.mark i2 i1 a b c = 2 by unfold zC; rw [topM_t (.inl e), if_pos rfl]]
      generalize zB t.mark i2 i1 a b = Z at *
      refine go ?_
      exact nxt 0 (by omega) (.inr (.inr (.inr ⟨rfl, rfl⟩)))
    · clear rng
      rw [show zC t.mark i2 i1 a b c = zB t.mark i2 i1 a b by unfold zC; rw [topM_f (by omega), if_neg Bool.noConfusion]]
      generalize zB t.mark i2 i1 a b = Z at *
      refine go ?_
      exact nxt 0 (by omega) (.inr (.inr (.inr ⟨rfl, rfl⟩)))
    · clear rng
      rw [show zC t.mark i2 i1 a b c = zB t.mark i2 i1 a b by unfold zC; rw [topM_f (by omega), if_neg Bool.noConfusion]]
      generalize zB t.mark i2 i1 a b = Z at *
      refine go ?_
      exact nxt 0 (by omega) (.inr (.inr (.inr ⟨rfl, rfl⟩)))
    · clear rng
      rw [show zC t.mark i2 i1 a b c = 2 by unfold zC; rw [topM_t (.inr ⟨e1, e2, e3⟩), if_pos rfl]]
      generalize zB t.mark i2 i1 a b = Z at *
      refine go ?_
      exact nxt 0 (by omega) (.inr (.inr (.inr ⟨rfl, rfl⟩)))
    · clear rng
      rw [show zC t.mark i2 i1 a b c = zB t.mark i2 i1 a b by unfold zC; rw [topM_f (by omega), if_neg Bool.noConfusion]]
      generalize zB t.mark i2 i1 a b = Z at *
      refine go ?_
      exact nxt 0 (by omega) (.inr (.inr (.inr ⟨rfl, rfl⟩)))
  · refine go ?_
    exact hT _ (small_3 n t a b c p q s h _ rng hQ _ _ _ rfl)
end Go.Proofs.Ytnmocjhpbobahaa.L
