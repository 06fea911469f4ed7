/- U61a: Rest.small of the document's table (printed by wip/gensmall.py). -/
import Derived.Test.YtnmocjhpbobahaaQ22
import Derived.Test.YtnmocjhpbobahaaQ28
set_option linter.unusedVariables false
set_option linter.unusedSimpArgs false
set_option linter.unnecessarySimpa false
namespace Go.Proofs.Ytnmocjhpbobahaa.L
open Go Go.RowKit
set_option maxRecDepth 100000
set_option maxHeartbeats 4000000
attribute [local simp] lendO innT_t innT_f
noncomputable abbrev ESmallT : Env := ext (ext env0 77 specInT) 78 specJoinT
/-- What follows the first k parts of a body. -/
def sndN : Nat → Code → Option Code
  | 0, c => some c
  | k + 1, .seq _ b => sndN k b
  | _, _ => none
theorem rp_cut {reg : Reg} {a b : Code} {σ : St Unit} {Q : Ex → St Unit → Prop} (h : ∀ T : Ex → St Unit → Prop, (∀ σ', RP reg b σ' Q → T .normal σ') → (∀ σ', Q .ret σ' → T .ret σ') → RP reg a σ T) : RP reg (.seq a b) σ Q := rp_seq (h _ (fun _ h => h) (fun _ h => h))
abbrev smO (t : Tbl) : SV Unit := one (.c (tbO t))
abbrev o3 (x y z : Int) : SV Unit := ⟨.one, [.c (.sl true 1 () (il3 x y z))]⟩
noncomputable abbrev regS : Reg := regOf Try.prog ESmallT (251 + zeroN) u61
structure SmIn (n : Nat) (t : Tbl) (a b c p q s : Nat) : Prop where
  tb : TbOk n t
  le : n ≤ 1000000
  an : a < n
  bn : b < n
  cn : c < n
  pn : p < n
  qn : q < n
  sn : s < n
  aq : a ≠ q
  aS : a ≠ s
theorem TbOk.lay {n : Nat} {t : Tbl} (h : TbOk n t) {m : List Int} (hm : m.length = n) : TbOk n ⟨t.inn, t.adj, m⟩ := ⟨h.inn, h.adj, h.row, hm⟩
theorem layT_len (m : List Int) (k : Int) (o : Nat) : (layT m k o).length = m.length := by unfold layT; split <;> simp
theorem layT_pos {m : List Int} {k : Int} {o : Nat} (h : 0 < k) : layT m k o = m.set o k := by unfold layT; rw [if_pos h]
theorem layT_zero {m : List Int} {k : Int} {o : Nat} (h : ¬ 0 < k) : layT m k o = m := by unfold layT; rw [if_neg h]
/-- What follows the loops. -/
abbrev doneS (t : Tbl) (a b c q s : Nat) : Tbl := (((t.off b).off c).join a q).join a s

theorem small_end (n : Nat) (t : Tbl) (a b c p q s : Nat) (h : SmIn n t a b c p q s) (t0 : Tbl) {Q : Ex → St Unit → Prop} (hQ : endsAsL Try.prog Try.f61 (tbO t0) (lentSV (tbO ⟨(doneS t a b c q s).inn, (doneS t a b c q s).adj, t.mark.set a 1⟩) (bv true)) = Q) (x y z : Int) : ∀ k, (Try.f61.body.bind (sndN 13)) = some k → RP regS k [(0, smO t), (3, cuBx a b c p q s), (6, o3 p q s), (12, o3 x y z), (15, iv 3), (197, bv false)] Q := by
  intro k hk
  obtain rfl := Option.some.inj hk
  have c1 := h.tb.inn
  have c2 := h.tb.mark
  have b1 : b < t.inn.length := by have := h.bn; omega
  have c3 : c < t.inn.length := by have := h.cn; omega
  have a1 : a < t.mark.length := by have := h.an; omega
  have ht1 := h.tb.off b
  have ht2 := ht1.off c
  have jo : JoinT ((t.off b).off c) a q := ⟨n, ht2, h.le, h.an, h.qn, h.aq⟩
  have ht3 := ht2.join h.an h.qn
  have jo2 : JoinT (((t.off b).off c).join a q) a s := ⟨n, ht3, h.le, h.an, h.sn, h.aS⟩
  have m4 : ((((t.off b).off c).join a q).join a s).mark.length = n := h.tb.mark
  have e4 : ((((t.off b).off c).join a q).join a s).mark = t.mark := rfl
  refine go ?_
  rw [show (Cell.bx true () [Cell.sl true 1 () (BL ((t.inn.set b false).set c false)), Cell.sl true 1 () (OT t.adj), Cell.sl true 1 () (IL t.mark)] : Cell Unit) = tbO ((t.off b).off c) from rfl]
  refine go ?_
  show Q .ret _
  refine finL_ret hQ rfl rfl rfl

abbrev l5S (t : Tbl) (a b c p q s : Nat) (x y z i : Int) : St Unit := [(0, smO t), (3, cuBx a b c p q s), (6, o3 p q s), (12, o3 x y z), (15, iv i)]
abbrev lay1 (t : Tbl) (k : Int) (o : Nat) : Tbl := ⟨t.inn, t.adj, layT t.mark k o⟩
theorem SmIn.lay {n : Nat} {t : Tbl} {a b c p q s : Nat} (h : SmIn n t a b c p q s) (k : Int) (o : Nat) : SmIn n (lay1 t k o) a b c p q s := ⟨h.tb.lay (by rw [layT_len]; exact h.tb.mark), h.le, h.an, h.bn, h.cn, h.pn, h.qn, h.sn, h.aq, h.aS⟩
abbrev lay3 (t : Tbl) (x y z : Int) (p q s : Nat) : Tbl := lay1 (lay1 (lay1 t x p) y q) z s
theorem small_5 (n : Nat) (t : Tbl) (a b c p q s : Nat) (h : SmIn n t a b c p q s) (x y z : Int) (hx : 0 ≤ x) (hy : 0 ≤ y) (hz : 0 ≤ z) (t0 : Tbl) {Q : Ex → St Unit → Prop} (hQ : endsAsL Try.prog Try.f61 (tbO t0) (lentSV (tbO ⟨(doneS (lay3 t x y z p q s) a b c q s).inn, (doneS (lay3 t x y z p q s) a b c q s).adj, (lay3 t x y z p q s).mark.set a 1⟩) (bv true)) = Q) : ∀ k, (Try.f61.body.bind (sndN 12)) = some k → RP regS k [(0, smO t), (3, cuBx a b c p q s), (6, o3 p q s), (12, o3 x y z), (14, iv 3), (160, bv false)] Q := by
  intro k hk
  obtain rfl := Option.some.inj hk
  have h1 := h.lay x p
  have h2 := h1.lay y q
  have h3 := h2.lay z s
  refine rp_cut fun T hT hr => ?_
  refine go ?_
  apply rp_loop (fun k σ => (k = 3 ∧ σ = l5S t a b c p q s x y z 0) ∨ (k = 2 ∧ σ = l5S (lay1 t x p) a b c p q s x y z 1) ∨ (k = 1 ∧ σ = l5S (lay1 (lay1 t x p) y q) a b c p q s x y z 2) ∨ (k = 0 ∧ σ = l5S (lay3 t x y z p q s) a b c p q s x y z 3)) 3
  · exact .inl ⟨rfl, rfl⟩
  rintro k σ (⟨rfl, rfl⟩ | ⟨rfl, rfl⟩ | ⟨rfl, rfl⟩ | ⟨rfl, rfl⟩)

  · have g0 := h.tb.mark
    have g1 : p < t.mark.length := by have := h.pn; omega
    by_cases k0 : 0 < x
    · rw [show (lay1 t x p) = (⟨t.inn, t.adj, t.mark.set p x⟩ : Tbl) by show Tbl.mk _ _ _ = _; rw [layT_pos k0]]
      clear h1 h2 h3
      refine go ?_
      exact nxt 2 (by omega) (.inr (.inl ⟨rfl, rfl⟩))
    · rw [show (lay1 t x p) = t by show Tbl.mk _ _ _ = _; rw [layT_zero k0]]
      clear h1 h2 h3
      refine go ?_
      exact nxt 2 (by omega) (.inr (.inl ⟨rfl, rfl⟩))

  · have g0 := h1.tb.mark
    have g1 : q < (lay1 t x p).mark.length := by have := h.qn; omega
    by_cases k0 : 0 < y
    · rw [show (lay1 (lay1 t x p) y q) = (⟨(lay1 t x p).inn, (lay1 t x p).adj, (lay1 t x p).mark.set q y⟩ : Tbl) by show Tbl.mk _ _ _ = _; rw [layT_pos k0]]
      clear h1 h2 h3
      generalize (lay1 t x p) = T at *
      refine go ?_
      exact nxt 1 (by omega) (.inr (.inr (.inl ⟨rfl, rfl⟩)))
    · rw [show (lay1 (lay1 t x p) y q) = (lay1 t x p) by show Tbl.mk _ _ _ = _; rw [layT_zero k0]]
      clear h1 h2 h3
      generalize (lay1 t x p) = T at *
      refine go ?_
      exact nxt 1 (by omega) (.inr (.inr (.inl ⟨rfl, rfl⟩)))

  · have g0 := h2.tb.mark
    have g1 : s < (lay1 (lay1 t x p) y q).mark.length := by have := h.sn; omega
    by_cases k0 : 0 < z
    · rw [show (lay3 t x y z p q s) = (⟨(lay1 (lay1 t x p) y q).inn, (lay1 (lay1 t x p) y q).adj, (lay1 (lay1 t x p) y q).mark.set s z⟩ : Tbl) by show Tbl.mk _ _ _ = _; rw [layT_pos k0]]
      clear h1 h2 h3
      generalize (lay1 (lay1 t x p) y q) = T at *
      refine go ?_
      exact nxt 0 (by omega) (.inr (.inr (.inr ⟨rfl, rfl⟩)))
    · rw [show (lay3 t x y z p q s) = (lay1 (lay1 t x p) y q) by show Tbl.mk _ _ _ = _; rw [layT_zero k0]]
      clear h1 h2 h3
      generalize (lay1 (lay1 t x p) y q) = T at *
      refine go ?_
      exact nxt 0 (by omega) (.inr (.inr (.inr ⟨rfl, rfl⟩)))

  · refine go ?_
    exact hT _ (small_end n _ a b c p q s h3 t0 hQ x y z _ rfl)
end Go.Proofs.Ytnmocjhpbobahaa.L
