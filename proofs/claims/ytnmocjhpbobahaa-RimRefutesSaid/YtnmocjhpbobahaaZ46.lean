/- U20: carcanetref20.Refutes of a right graph: as the code's. -/
import Derived.Test.YtnmocjhpbobahaaZ40
import Derived.Test.YtnmocjhpbobahaaZ43
import Derived.Test.YtnmocjhpbobahaaZ12
import Derived.Test.YtnmocjhpbobahaaZ45
import Derived.Test.YtnmocjhpbobahaaZ42
set_option linter.unusedVariables false
set_option linter.unusedSimpArgs false
set_option linter.unnecessarySimpa false
namespace Go.Proofs.Ytnmocjhpbobahaa.L
open Go Go.RowKit
set_option maxRecDepth 100000
set_option maxHeartbeats 4000000
theorem fo_t {t : Tbl} (h : fourT t = true) : fourT t = true := h
theorem fo_f {t : Tbl} (h : fourT t = false) : fourT t = false := h
theorem fi_t {t : Tbl} (h : fitT t = true) : fitT t = true := h
theorem fi_f {t : Tbl} (h : fitT t = false) : fitT t = false := h
attribute [local simp] lendO fo_t fo_f fi_t fi_f
noncomputable abbrev ERefT : Env := ext (ext (ext (ext (ext (ext (ext (ext env0 23 spec34) 31 specLowT) 39 specAfter) 47 specIs) 36 specDoT) 33 specLeastT) 34 specFourT) 35 specFitT
abbrev GoalT (n : Nat) (es : List (Int × Int)) (e : Int) (l : List Cu) : Prop := ∃ k, Try.f20.body = some k ∧ RP (regOf Try.prog ERefT 125 u20) k (argsSt 0 [gr n es, tr e l]) (endsAs Try.prog Try.f20 (bv (refuB n es e l)))
theorem wRefT23 (n : Nat) (es : List (Int × Int)) (hR : RightG n es) (e : Int) (l : List Cu) (hl : l.length ≤ 1000000) (he : e = 2 ∨ e = 3) : GoalT n es e l := by
  refine ⟨_, rfl, ?_⟩
  generalize hQ : endsAs Try.prog Try.f20 (bv (refuB n es e l)) = Q
  simp only [argsSt]
  rcases he with rfl | rfl
  · rw [refuB_2] at hQ
    by_cases h0 : l = []
    · by_cases h4 : (n : Int) < 4
      · rw [decide_eq_true (show l = [] ∧ (n : Int) < 4 from ⟨h0, h4⟩)] at hQ
        subst h0
        refine go ?_
        show Q .ret _; refine fin_ret hQ rfl ?_
        rfl
      · rw [decide_eq_false (show ¬ (l = [] ∧ (n : Int) < 4) from fun q => h4 q.2)] at hQ
        subst h0
        refine go ?_
        show Q .ret _; refine fin_ret hQ rfl ?_
        rfl
    · rw [decide_eq_false (show ¬ (l = [] ∧ (n : Int) < 4) from fun q => h0 q.1)] at hQ
      refine go ?_
      show Q .ret _; refine fin_ret hQ rfl ?_
      rfl
  · rw [refuB_3] at hQ
    by_cases h0 : l = []
    · subst h0
      have hb : (decide (0 < n) && decide (minL (degF n es es.length) < 3)) = decide (0 < (n : Int) ∧ minL (degF n es es.length) < 3) := by simp
      rw [decide_eq_true (show ([] : List Cu) = [] from rfl), Bool.true_and, ← hb] at hQ
      refine go ?_
      show Q .ret _; refine fin_ret hQ rfl ?_
      rfl
    · rw [decide_eq_false h0, Bool.false_and] at hQ
      refine go ?_
      show Q .ret _; refine fin_ret hQ rfl ?_
      rfl
theorem wRefT46 (n : Nat) (es : List (Int × Int)) (hR : RightG n es) (e : Int) (l : List Cu) (hl : l.length ≤ 1000000) (h2 : ¬ e = 2) (h3 : ¬ e = 3) (h5 : ¬ e = 5) : GoalT n es e l := by
  refine ⟨_, rfl, ?_⟩
  generalize hQ : endsAs Try.prog Try.f20 (bv (refuB n es e l)) = Q
  simp only [argsSt]
  have hn := hR.1
  have hRl : RightG n es ∧ l.length ≤ 1000000 := ⟨hR, hl⟩
  have hb := begin_agr hR
  obtain ⟨ha, hk⟩ := Agr.repl (n := n) (by omega) (l := l) hb
  obtain ⟨_, hkl⟩ := replF_ok (l := l) hb.rst
  rw [← hk] at hkl
  have good : TbGood (replT (tbE n es es.length) l).1 := ⟨by rw [ha.tb.inn]; exact ha.tb, by rw [ha.tb.inn]; omega⟩
  have eL := ha.least
  have eF := ha.four
  have eT := ha.fits
  have e4 : e = 4 → refuB n es e l = (decide ((replT (tbE n es es.length) l).2 = l.length) && stuckB (replF n (beginF n es) l).1) := fun q => by rw [q, refuB_4, hk]
  have e6 : e = 6 → refuB n es e l = (decide ((replT (tbE n es es.length) l).2 = l.length) && unfitB (replF n (beginF n es) l).1) := fun q => by rw [q, refuB_6, hk]
  have en : ¬ e = 4 → ¬ e = 6 → refuB n es e l = false := fun q q' => refuB_n h2 h3 h5 q q'
  unfold stuckB at e4
  unfold unfitB at e6
  rw [← eF, ← eL] at e4
  rw [← eF, ← eT] at e6
  clear eL eF eT ha hk hb
  refine go ?_
  generalize hT : replT (tbE n es es.length) l = X at *
  obtain ⟨T, c⟩ := X
  simp only at hkl good e4 e6 ⊢
  by_cases hc : c < l.length
  · have hno : refuB n es e l = false := by
      by_cases q : e = 4
      · rw [e4 q, decide_eq_false (show ¬ c = l.length by omega), Bool.false_and]
      · by_cases q' : e = 6
        · rw [e6 q', decide_eq_false (show ¬ c = l.length by omega), Bool.false_and]
        · exact en q q'
    rw [hno] at hQ
    refine go ?_
    show Q .ret _; refine fin_ret hQ rfl ?_
    rfl
  rw [decide_eq_true (show c = l.length by omega), Bool.true_and] at e4 e6
  by_cases q : e = 4
  · rw [e4 q] at hQ
    subst q
    cases hF : fourT T with
    | true =>
      rw [hF] at hQ
      refine go ?_
      try simp only [hF]
      refine go ?_
      show Q .ret _; refine fin_ret hQ rfl ?_
      rfl
    | false =>
      cases hL : leastT T with
      | none =>
        rw [hF, hL, decide_eq_true rfl] at hQ
        refine go ?_
        try simp only [hF, hL, cuO]
        refine go ?_
        show Q .ret _; refine fin_ret hQ rfl ?_
        rfl
      | some x =>
        rw [hF, hL, decide_eq_false (show ¬ (some x = none) by simp)] at hQ
        refine go ?_
        try simp only [hF, hL, cuO]
        refine go ?_
        show Q .ret _; refine fin_ret hQ rfl ?_
        rfl
  by_cases q' : e = 6
  · rw [e6 q'] at hQ
    subst q'
    cases hF : fourT T with
    | false =>
      rw [hF] at hQ
      refine go ?_
      try simp only [hF]
      refine go ?_
      show Q .ret _; refine fin_ret hQ rfl ?_
      rfl
    | true =>
      cases hT' : fitT T with
      | true =>
        rw [hF, hT'] at hQ
        refine go ?_
        try simp only [hF, hT']
        refine go ?_
        show Q .ret _; refine fin_ret hQ rfl ?_
        rfl
      | false =>
        rw [hF, hT'] at hQ
        refine go ?_
        try simp only [hF, hT']
        refine go ?_
        show Q .ret _; refine fin_ret hQ rfl ?_
        rfl
  rw [en q q'] at hQ
  refine go ?_
  show Q .ret _; refine fin_ret hQ rfl ?_
  rfl
theorem Agr.last {n : Nat} {r : Rst} {t : Tbl} (h : Agr n r t) (hn : n ≤ 1000000) (x : Cu) : lastB n r x = (isK t x && !(doT t x).2) := by
  unfold lastB
  cases hk : isK t x with
  | true =>
    obtain ⟨h1, h2⟩ := (h.is x).1 hk
    obtain ⟨a, b, c, p, q, s, rfl, k, _⟩ := h.cut hk
    obtain ⟨_, d1, _⟩ := h.do hn k
    rw [decide_eq_true h1, decide_eq_true h2, d1]
    rfl
  | false =>
    by_cases h1 : okT n x
    · by_cases h2 : cutF r x.1.toNat x.2.1.toNat x.2.2.1.toNat = (x, true)
      · rw [(h.is x).2 ⟨h1, h2⟩] at hk; cases hk
      · rw [decide_eq_false h2, Bool.false_and, Bool.and_false]; rfl
    · rw [decide_eq_false h1]; rfl
theorem wRefT5 (n : Nat) (es : List (Int × Int)) (hR : RightG n es) (l : List Cu) (hl : l.length ≤ 1000000) : GoalT n es 5 l := by
  refine ⟨_, rfl, ?_⟩
  generalize hQ : endsAs Try.prog Try.f20 (bv (refuB n es 5 l)) = Q
  simp only [argsSt]
  rw [refuB_5] at hQ
  by_cases h0 : l = []
  · subst h0
    rw [clashB_nil] at hQ
    refine go ?_
    show Q .ret _; refine fin_ret hQ rfl ?_
    rfl
  have hn := hR.1
  have hn6 : n ≤ 1000000 := by omega
  have hb := begin_agr hR
  have hpos : 0 < l.length := List.length_pos_iff.2 h0
  have htl : (l.take (l.length - 1)).length = l.length - 1 := by rw [List.length_take]; omega
  have htl2 : RightG n es ∧ (l.take (l.length - 1)).length ≤ 1000000 := ⟨hR, by omega⟩
  obtain ⟨ha, hk⟩ := Agr.repl hn6 (l := l.take (l.length - 1)) hb
  obtain ⟨_, hkl⟩ := replF_ok (l := l.take (l.length - 1)) hb.rst
  rw [← hk, htl] at hkl
  have hch : clashB n (beginF n es) l = (decide ((replT (tbE n es es.length) (l.take (l.length - 1))).2 = l.length - 1) && lastB n (replF n (beginF n es) (l.take (l.length - 1))).1 (cuAt l (l.length - 1))) := by
    unfold clashB; rw [decide_eq_true (show l ≠ [] from h0), Bool.true_and, hk]
  rw [ha.last hn6] at hch
  rw [hch] at hQ
  have good : TbGood (replT (tbE n es es.length) (l.take (l.length - 1))).1 := ⟨by rw [ha.tb.inn]; exact ha.tb, by rw [ha.tb.inn]; omega⟩
  have hcut := @Agr.cut n _ _ ha (cuAt l (l.length - 1))
  have hdo : isK (replT (tbE n es es.length) (l.take (l.length - 1))).1 (cuAt l (l.length - 1)) = true → DoTOk (replT (tbE n es es.length) (l.take (l.length - 1))).1 (cuAt l (l.length - 1)) := fun q => by
    obtain ⟨a, b, c, p, q, s, e, k, _⟩ := hcut q
    rw [e]; exact (ha.do hn6 k).1
  clear hcut hch ha hk hb
  refine go ?_
  generalize hX : replT (tbE n es es.length) (l.take (l.length - 1)) = X at *
  obtain ⟨T, c⟩ := X
  simp only at hkl good hQ hdo ⊢
  have hi : l.length - 1 < l.length := by omega
  by_cases hc : (c : Int) < l.length - 1
  · rw [decide_eq_false (show ¬ c = l.length - 1 by omega), Bool.false_and] at hQ
    refine go ?_
    show Q .ret _; refine fin_ret hQ rfl ?_
    rfl
  rw [decide_eq_true (show c = l.length - 1 by omega), Bool.true_and] at hQ
  generalize hE : cuAt l (l.length - 1) = e at *
  obtain ⟨A, B, C, P, Q', S⟩ := e
  cases hk : isK T (A, B, C, P, Q', S) with
  | false =>
    rw [hk, Bool.false_and] at hQ
    refine go ?_
    rw [hE]
    refine go ?_
    simp only [hk]
    refine go ?_
    show Q .ret _; refine fin_ret hQ rfl ?_
    rfl
  | true =>
    have dok := hdo hk
    have dok' : DoTOk T ((cuAt l (l.length - 1)).1, (cuAt l (l.length - 1)).2.1, (cuAt l (l.length - 1)).2.2.1, (cuAt l (l.length - 1)).2.2.2.1, (cuAt l (l.length - 1)).2.2.2.2.1, (cuAt l (l.length - 1)).2.2.2.2.2) := by rw [hE]; exact dok
    rw [hk, Bool.true_and] at hQ
    refine go ?_
    rw [hE]
    refine go ?_
    simp only [hk]
    refine go ?_
    rw [hE]
    refine go ?_
    show Q .ret _; refine fin_ret hQ rfl ?_
    rfl
theorem ERefT_ok : EnvOk Try.prog ERefT := ext_ok (ext_ok (ext_ok (ext_ok (ext_ok (ext_ok (ext_ok (ext_ok env0_ok ok34) okLowT) okAfter) okIs) okDoT) okLeastT) okFourT) okFitT
theorem wRefT (n : Nat) (es : List (Int × Int)) (hR : RightG n es) (e : Int) (l : List Cu) (hl : l.length ≤ 1000000) : GoalT n es e l := by
  by_cases h2 : e = 2
  · exact wRefT23 n es hR e l hl (.inl h2)
  by_cases h3 : e = 3
  · exact wRefT23 n es hR e l hl (.inr h3)
  by_cases h5 : e = 5
  · subst h5; exact wRefT5 n es hR l hl
  exact wRefT46 n es hR e l hl h2 h3 h5
noncomputable def specRefT : Spec := spec2 asGr asTr fun g t => when (RightG g.1 g.2 ∧ t.2.length ≤ 1000000) (bv (refuB g.1.toNat g.2 t.1 t.2))
theorem okRefT : SpecOk 20 specRefT := by
  intro us r h
  obtain ⟨x, y, g, t, rfl, hg, hl, h⟩ := spec2_eq h
  obtain ⟨⟨h1, h2⟩, rfl⟩ := when_eq h
  rw [asGr_eq hg, asTr_eq hl]
  have h0 : ((g.1.toNat : Nat) : Int) = g.1 := by have := h1.1; omega
  have hw := wRefT g.1.toNat g.2 (by rw [h0]; exact h1) t.1 t.2 h2
  unfold GoalT at hw
  rw [h0] at hw
  exact goodBy2 ERefT_ok Try.func20 rfl (Nat.le_of_ble_eq_true rfl) (by decide) hw
@[simp] theorem sRefT (n : Nat) (es : List (Int × Int)) (e : Int) (l : List Cu) (h : RightG n es ∧ l.length ≤ 1000000) : specRefT [gr n es, tr e l] = some (bv (refuB n es e l)) := by
  unfold specRefT; rw [spec2_v (asGr_gr (n : Int) es) (asTr_tr e l)]; exact when_pos _ h
@[simp] theorem callRefT {E : Env} {σ : St Unit} {t : Nat} {l : List Operand} : effCall Try.prog E ΩU σ t 20 l = callO E 20 t (argsOf Try.prog ΩU σ [26, 31] l) := eff_call Try.func20 Try.params20
end Go.Proofs.Ytnmocjhpbobahaa.L
