/- U61b: Rest.small of the document's table (printed by wip/gensmall.py). -/
import Derived.Test.YtnmocjhpbobahaaQ29
set_option linter.unusedVariables false
set_option linter.unusedSimpArgs false
set_option linter.unnecessarySimpa false
namespace Go.Proofs.Ytnmocjhpbobahaa.L
open Go Go.RowKit
set_option maxRecDepth 100000
set_option maxHeartbeats 4000000
attribute [local simp] lendO innT_t innT_f
def finT (t : Tbl) (a b c p q s : Nat) (x y z : Int) : Tbl × Bool :=
  if badT t x p = true ∨ badT t y q = true ∨ badT t z s = true then (t, false)
  else (⟨(doneS (lay3 t x y z p q s) a b c q s).inn, (doneS (lay3 t x y z p q s) a b c q s).adj, (lay3 t x y z p q s).mark.set a 1⟩, true)
abbrev l4S (t : Tbl) (a b c p q s : Nat) (x y z i : Int) : St Unit := [(0, smO t), (3, cuBx a b c p q s), (6, o3 p q s), (12, o3 x y z), (14, iv i)]
theorem badT_2 {t : Tbl} {o : Nat} (h : nth t.mark o = 1) : badT t 2 o = true := by unfold badT; rw [decide_eq_true ⟨rfl, h⟩]; rfl
theorem badT_2n {t : Tbl} {o : Nat} (h : ¬ nth t.mark o = 1) : badT t 2 o = false := by unfold badT; rw [decide_eq_false (fun q => h q.2)]; rfl
theorem badT_1 {t : Tbl} {o : Nat} {b : Bool} (h : innT t o = b) : badT t 1 o = b := by unfold badT; rw [h]; simp
theorem badT_0 {t : Tbl} {o : Nat} : badT t 0 o = false := by unfold badT; simp
theorem small_4 (n : Nat) (t : Tbl) (a b c p q s : Nat) (h : SmIn n t a b c p q s) (x y z : Int) (hx : x = 0 ∨ x = 1 ∨ x = 2) (hy : y = 0 ∨ y = 1 ∨ y = 2) (hz : z = 0 ∨ z = 1 ∨ z = 2) {Q : Ex → St Unit → Prop} (hQ : endsAsL Try.prog Try.f61 (tbO t) (lentSV (tbO (finT t a b c p q s x y z).1) (bv (finT t a b c p q s x y z).2)) = Q) (zz : Int) : ∀ k, (Try.f61.body.bind (sndN 11)) = some k → RP regS k [(0, smO t), (3, cuBx a b c p q s), (5, o3 a b c), (6, o3 p q s), (10, iv zz), (12, o3 x y z), (13, iv 3), (132, bv false)] Q := by
  intro k hk
  obtain rfl := Option.some.inj hk
  have g0 := h.tb.mark
  have gp : p < t.mark.length := by have := h.pn; omega
  have gq : q < t.mark.length := by have := h.qn; omega
  have gs : s < t.mark.length := by have := h.sn; omega
  have kp : TbHas t p := ⟨n, h.tb, h.le, h.pn⟩
  have kq : TbHas t q := ⟨n, h.tb, h.le, h.qn⟩
  have ks : TbHas t s := ⟨n, h.tb, h.le, h.sn⟩
  have bad : (badT t x p = true ∨ badT t y q = true ∨ badT t z s = true) → finT t a b c p q s x y z = (t, false) := fun e => by unfold finT; rw [if_pos e]
  refine rp_cut fun T hT hr => ?_
  refine go ?_
  apply rp_loop (fun k σ => (k = 3 ∧ σ = l4S t a b c p q s x y z 0) ∨ (k = 2 ∧ badT t x p = false ∧ σ = l4S t a b c p q s x y z 1) ∨ (k = 1 ∧ badT t x p = false ∧ badT t y q = false ∧ σ = l4S t a b c p q s x y z 2) ∨ (k = 0 ∧ badT t x p = false ∧ badT t y q = false ∧ badT t z s = false ∧ σ = l4S t a b c p q s x y z 3)) 3
  · exact .inl ⟨rfl, rfl⟩
  rintro k σ (⟨rfl, rfl⟩ | ⟨rfl, u1, rfl⟩ | ⟨rfl, u1, u2, rfl⟩ | ⟨rfl, u1, u2, u3, rfl⟩)

  · rcases hx with rfl | rfl | rfl
    · refine go ?_
      exact nxt 2 (by omega) (.inr (.inl ⟨rfl, badT_0, rfl⟩))
    · cases e : innT t p with
      | true =>
        rw [bad (.inl (badT_1 e))] at hQ
        refine go ?_
        refine hr _ ?_
        refine finL_ret hQ rfl rfl rfl
      | false =>
        refine go ?_
        exact nxt 2 (by omega) (.inr (.inl ⟨rfl, badT_1 e, rfl⟩))
    · by_cases e : nth t.mark p = 1
      · rw [bad (.inl (badT_2 e))] at hQ
        refine go ?_
        refine hr _ ?_
        refine finL_ret hQ rfl rfl rfl
      · refine go ?_
        exact nxt 2 (by omega) (.inr (.inl ⟨rfl, badT_2n e, rfl⟩))
  · rcases hy with rfl | rfl | rfl
    · refine go ?_
      exact nxt 1 (by omega) (.inr (.inr (.inl ⟨rfl, u1, badT_0, rfl⟩)))
    · cases e : innT t q with
      | true =>
        rw [bad (.inr (.inl (badT_1 e)))] at hQ
        refine go ?_
        refine hr _ ?_
        refine finL_ret hQ rfl rfl rfl
      | false =>
        refine go ?_
        exact nxt 1 (by omega) (.inr (.inr (.inl ⟨rfl, u1, badT_1 e, rfl⟩)))
    · by_cases e : nth t.mark q = 1
      · rw [bad (.inr (.inl (badT_2 e)))] at hQ
        refine go ?_
        refine hr _ ?_
        refine finL_ret hQ rfl rfl rfl
      · refine go ?_
        exact nxt 1 (by omega) (.inr (.inr (.inl ⟨rfl, u1, badT_2n e, rfl⟩)))
  · rcases hz with rfl | rfl | rfl
    · refine go ?_
      exact nxt 0 (by omega) (.inr (.inr (.inr ⟨rfl, u1, u2, badT_0, rfl⟩)))
    · cases e : innT t s with
      | true =>
        rw [bad (.inr (.inr (badT_1 e)))] at hQ
        refine go ?_
        refine hr _ ?_
        refine finL_ret hQ rfl rfl rfl
      | false =>
        refine go ?_
        exact nxt 0 (by omega) (.inr (.inr (.inr ⟨rfl, u1, u2, badT_1 e, rfl⟩)))
    · by_cases e : nth t.mark s = 1
      · rw [bad (.inr (.inr (badT_2 e)))] at hQ
        refine go ?_
        refine hr _ ?_
        refine finL_ret hQ rfl rfl rfl
      · refine go ?_
        exact nxt 0 (by omega) (.inr (.inr (.inr ⟨rfl, u1, u2, badT_2n e, rfl⟩)))
  · have fin : finT t a b c p q s x y z = (⟨(doneS (lay3 t x y z p q s) a b c q s).inn, (doneS (lay3 t x y z p q s) a b c q s).adj, (lay3 t x y z p q s).mark.set a 1⟩, true) := by
      unfold finT
      rw [if_neg (by rw [u1, u2, u3]; rintro (e | e | e) <;> cases e)]
    rw [fin] at hQ
    refine go ?_
    exact hT _ (small_5 n t a b c p q s h x y z (by omega) (by omega) (by omega) t hQ _ rfl)
end Go.Proofs.Ytnmocjhpbobahaa.L
