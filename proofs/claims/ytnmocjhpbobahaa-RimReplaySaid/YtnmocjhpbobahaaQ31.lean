/- U61c: Rest.small of the document's table (printed by wip/gensmall.py). -/
import Derived.Test.YtnmocjhpbobahaaQ30
set_option linter.unusedVariables false
set_option linter.unusedSimpArgs false
set_option linter.unnecessarySimpa false
namespace Go.Proofs.Ytnmocjhpbobahaa.L
open Go Go.RowKit
set_option maxRecDepth 100000
set_option maxHeartbeats 4000000
attribute [local simp] lendO innT_t innT_f
abbrev l3S (t : Tbl) (a b c p q s : Nat) (zz x y z i : Int) : St Unit := [(0, smO t), (3, cuBx a b c p q s), (5, o3 a b c), (6, o3 p q s), (10, iv zz), (12, o3 x y z), (13, iv i)]
theorem toM_z {m : List Int} {z i : Int} {v : Nat} (h : z = i) : toM m z i v = 2 := by unfold toM; rw [if_pos h]
theorem toM_p {m : List Int} {z i : Int} {v : Nat} (h : ¬ z = i) (h0 : 0 ≤ z) : toM m z i v = 1 := by unfold toM; rw [if_neg h, if_pos (.inl h0)]
theorem toM_1 {m : List Int} {z i : Int} {v : Nat} (h : ¬ z = i) (h0 : nth m v = 1) : toM m z i v = 1 := by unfold toM; rw [if_neg h, if_pos (.inr h0)]
theorem toM_0 {m : List Int} {z i : Int} {v : Nat} (h : ¬ z = i) (h0 : ¬ 0 ≤ z) (h1 : ¬ nth m v = 1) : toM m z i v = 0 := by unfold toM; rw [if_neg h, if_neg (by rintro (e | e); exact h0 e; exact h1 e)]
theorem small_3 (n : Nat) (t : Tbl) (a b c p q s : Nat) (h : SmIn n t a b c p q s) (z : Int) (hz : -1 ≤ z ∧ z ≤ 2) {Q : Ex → St Unit → Prop} (hQ : endsAsL Try.prog Try.f61 (tbO t) (lentSV (tbO (finT t a b c p q s (toM t.mark z 0 a) (toM t.mark z 1 b) (toM t.mark z 2 c)).1) (bv (finT t a b c p q s (toM t.mark z 0 a) (toM t.mark z 1 b) (toM t.mark z 2 c)).2)) = Q) (i1 i2 : Int) : ∀ k, (Try.f61.body.bind (sndN 9)) = some k → RP regS k [(0, smO t), (3, cuBx a b c p q s), (5, o3 a b c), (6, o3 p q s), (7, iv i1), (8, iv i2), (10, iv z), (11, iv 3), (94, bv false)] Q := by
  intro k hk
  obtain rfl := Option.some.inj hk
  have g0 := h.tb.mark
  have ga : a < t.mark.length := by have := h.an; omega
  have gb : b < t.mark.length := by have := h.bn; omega
  have gc : c < t.mark.length := by have := h.cn; omega
  have w0 := toM_012 t.mark z 0 a
  have w1 := toM_012 t.mark z 1 b
  have w2 := toM_012 t.mark z 2 c
  (show RP _ (.seq (.region _ _ false) _) _ _; refine gs ?_)
  refine rp_cut fun T hT hr => ?_
  refine go ?_
  apply rp_loop (fun k σ => (k = 3 ∧ σ = l3S t a b c p q s z 0 0 0 0) ∨ (k = 2 ∧ σ = l3S t a b c p q s z (toM t.mark z 0 a) 0 0 1) ∨ (k = 1 ∧ σ = l3S t a b c p q s z (toM t.mark z 0 a) (toM t.mark z 1 b) 0 2) ∨ (k = 0 ∧ σ = l3S t a b c p q s z (toM t.mark z 0 a) (toM t.mark z 1 b) (toM t.mark z 2 c) 3)) 3
  · exact .inl ⟨rfl, rfl⟩
  rintro k σ (⟨rfl, rfl⟩ | ⟨rfl, rfl⟩ | ⟨rfl, rfl⟩ | ⟨rfl, rfl⟩)

  · by_cases e : z = 0
    · rw [toM_z e]
      clear w0 w1 w2
      refine go ?_
      exact nxt 2 (by omega) (.inr (.inl ⟨rfl, rfl⟩))
    · by_cases e0 : 0 ≤ z
      · rw [toM_p e e0]
        clear w0 w1 w2
        refine go ?_
        exact nxt 2 (by omega) (.inr (.inl ⟨rfl, rfl⟩))
      · by_cases e1 : nth t.mark a = 1
        · rw [toM_1 e e1]
          clear w0 w1 w2
          refine go ?_
          exact nxt 2 (by omega) (.inr (.inl ⟨rfl, rfl⟩))
        · rw [toM_0 e e0 e1]
          clear w0 w1 w2
          refine go ?_
          exact nxt 2 (by omega) (.inr (.inl ⟨rfl, rfl⟩))
  · by_cases e : z = 1
    · rw [toM_z e]
      clear w0 w1 w2
      generalize toM t.mark z 0 a = W0 at *
      refine go ?_
      exact nxt 1 (by omega) (.inr (.inr (.inl ⟨rfl, rfl⟩)))
    · by_cases e0 : 0 ≤ z
      · rw [toM_p e e0]
        clear w0 w1 w2
        generalize toM t.mark z 0 a = W0 at *
        refine go ?_
        exact nxt 1 (by omega) (.inr (.inr (.inl ⟨rfl, rfl⟩)))
      · by_cases e1 : nth t.mark b = 1
        · rw [toM_1 e e1]
          clear w0 w1 w2
          generalize toM t.mark z 0 a = W0 at *
          refine go ?_
          exact nxt 1 (by omega) (.inr (.inr (.inl ⟨rfl, rfl⟩)))
        · rw [toM_0 e e0 e1]
          clear w0 w1 w2
          generalize toM t.mark z 0 a = W0 at *
          refine go ?_
          exact nxt 1 (by omega) (.inr (.inr (.inl ⟨rfl, rfl⟩)))
  · by_cases e : z = 2
    · rw [toM_z e]
      clear w0 w1 w2
      generalize toM t.mark z 0 a = W0 at *
      generalize toM t.mark z 1 b = W1 at *
      refine go ?_
      exact nxt 0 (by omega) (.inr (.inr (.inr ⟨rfl, rfl⟩)))
    · by_cases e0 : 0 ≤ z
      · rw [toM_p e e0]
        clear w0 w1 w2
        generalize toM t.mark z 0 a = W0 at *
        generalize toM t.mark z 1 b = W1 at *
        refine go ?_
        exact nxt 0 (by omega) (.inr (.inr (.inr ⟨rfl, rfl⟩)))
      · by_cases e1 : nth t.mark c = 1
        · rw [toM_1 e e1]
          clear w0 w1 w2
          generalize toM t.mark z 0 a = W0 at *
          generalize toM t.mark z 1 b = W1 at *
          refine go ?_
          exact nxt 0 (by omega) (.inr (.inr (.inr ⟨rfl, rfl⟩)))
        · rw [toM_0 e e0 e1]
          clear w0 w1 w2
          generalize toM t.mark z 0 a = W0 at *
          generalize toM t.mark z 1 b = W1 at *
          refine go ?_
          exact nxt 0 (by omega) (.inr (.inr (.inr ⟨rfl, rfl⟩)))
  · refine go ?_
    exact hT _ (small_4 n t a b c p q s h _ _ _ w0 w1 w2 hQ _ _ rfl)
end Go.Proofs.Ytnmocjhpbobahaa.L
