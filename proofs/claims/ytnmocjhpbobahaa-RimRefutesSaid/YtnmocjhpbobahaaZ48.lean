/- R19: rim.Refutes of a right graph. -/
import Derived.Test.YtnmocjhpbobahaaZ45
import Derived.Test.YtnmocjhpbobahaaZ47
set_option linter.unusedVariables false
set_option linter.unusedSimpArgs false
set_option linter.unnecessarySimpa false
namespace Go.Proofs.Ytnmocjhpbobahaa.L
open Go Go.RowKit
set_option maxRecDepth 100000
set_option maxHeartbeats 4000000
attribute [-simp] sFour
theorem same6_t {a b c p q s a' b' c' p' q' s' : Int} (h : same6 a b c p q s a' b' c' p' q' s' = true) : same6 a b c p q s a' b' c' p' q' s' = true := h
theorem same6_f {a b c p q s a' b' c' p' q' s' : Int} (h : same6 a b c p q s a' b' c' p' q' s' = false) : same6 a b c p q s a' b' c' p' q' s' = false := h
attribute [local simp] lendO same6_t same6_f
noncomputable abbrev ERef : Env := ext (ext (ext (ext (ext (ext (ext (ext (ext (ext (ext env0 21 spec32) 27 specBegin) 26 specLow) 37 specRepl) 43 specCorners) 44 specMin) 45 specMax) 46 specCut) 30 specDo) 28 specFour) 29 specLeast
abbrev GoalR (n : Nat) (es : List (Int × Int)) (e : Int) (l : List Cu) : Prop := ∃ k, Try.f19.body = some k ∧ RP (regOf Try.prog ERef 150 u19) k (argsSt 0 [gr n es, tr e l]) (endsAs Try.prog Try.f19 (bv (refuB n es e l)))
theorem wRef23 (n : Nat) (es : List (Int × Int)) (hR : RightG n es) (e : Int) (l : List Cu) (hl : l.length ≤ 1000000) (he : e = 2 ∨ e = 3) : GoalR n es e l := by
  refine ⟨_, rfl, ?_⟩
  generalize hQ : endsAs Try.prog Try.f19 (bv (refuB n es e l)) = Q
  simp only [argsSt]
  rcases he with rfl | rfl
  · rw [refuB_2] at hQ
    by_cases h0 : l = []
    · by_cases h4 : (n : Int) < 4
      · rw [decide_eq_true (show l = [] ∧ (n : Int) < 4 from ⟨h0, h4⟩)] at hQ
        subst h0
        refine go ?_
        show Q .ret _; refine fin_ret hQ rfl ?_
        rfl
      · rw [decide_eq_false (show ¬ (l = [] ∧ (n : Int) < 4) from fun q => h4 q.2)] at hQ
        subst h0
        refine go ?_
        show Q .ret _; refine fin_ret hQ rfl ?_
        rfl
    · rw [decide_eq_false (show ¬ (l = [] ∧ (n : Int) < 4) from fun q => h0 q.1)] at hQ
      refine go ?_
      show Q .ret _; refine fin_ret hQ rfl ?_
      rfl
  · rw [refuB_3] at hQ
    by_cases h0 : l = []
    · subst h0
      have hb : (decide (0 < n) && decide (minL (degF n es es.length) < 3)) = decide (0 < (n : Int) ∧ minL (degF n es es.length) < 3) := by simp
      rw [decide_eq_true (show ([] : List Cu) = [] from rfl), Bool.true_and, ← hb] at hQ
      refine go ?_
      show Q .ret _; refine fin_ret hQ rfl ?_
      rfl
    · rw [decide_eq_false h0, Bool.false_and] at hQ
      refine go ?_
      show Q .ret _; refine fin_ret hQ rfl ?_
      rfl
theorem wRefN (n : Nat) (es : List (Int × Int)) (hR : RightG n es) (e : Int) (l : List Cu) (hl : l.length ≤ 1000000) (h2 : ¬ e = 2) (h3 : ¬ e = 3) (h5 : ¬ e = 5) (h4 : ¬ e = 4) (h6 : ¬ e = 6) : GoalR n es e l := by
  refine ⟨_, rfl, ?_⟩
  generalize hQ : endsAs Try.prog Try.f19 (bv (refuB n es e l)) = Q
  simp only [argsSt]
  rw [refuB_n h2 h3 h5 h4 h6] at hQ
  refine go ?_
  show Q .ret _; refine fin_ret hQ rfl ?_
  rfl
theorem wRef46 (n : Nat) (es : List (Int × Int)) (hR : RightG n es) (e : Int) (l : List Cu) (hl : l.length ≤ 1000000) (he : e = 4 ∨ e = 6) : GoalR n es e l := by
  refine ⟨_, rfl, ?_⟩
  generalize hQ : endsAs Try.prog Try.f19 (bv (refuB n es e l)) = Q
  simp only [argsSt]
  have hn := hR.1
  have hb := begin_ok hR
  have hbn := hb.near
  have rok : ReplOk (beginF n es) l := ⟨by rw [hbn]; exact hb, by omega, hl⟩
  obtain ⟨hk, hkl⟩ := replF_ok (l := l) hb
  have hkn := hk.near
  have fo : FourOk (replF n (beginF n es) l).1 := ⟨by rw [hkn]; exact hk.toRstOk, by rw [hkn]; omega, by rw [hkn]; exact hk.mks⟩
  have lo : LeastOk (replF n (beginF n es) l).1 := ⟨by rw [hkn]; exact hk.toRstOk, by rw [hkn]; omega⟩
  rcases he with rfl | rfl
  · rw [refuB_4] at hQ
    refine go ?_
    rw [hbn]
    generalize hX : replF n (beginF n es) l = X at *
    obtain ⟨R, c⟩ := X
    simp only at hk hkl hkn fo lo hQ ⊢
    by_cases hc : c < l.length
    · rw [decide_eq_false (show ¬ c = l.length by omega), Bool.false_and] at hQ
      refine go ?_
      show Q .ret _; refine fin_ret hQ rfl ?_
      rfl
    rw [decide_eq_true (show c = l.length by omega), Bool.true_and] at hQ
    unfold stuckB at hQ
    cases hF : isFb R with
    | true =>
      rw [hF] at hQ
      refine go ?_
      simp only [hF]
      refine go ?_
      show Q .ret _; refine fin_ret hQ rfl ?_
      rfl
    | false =>
      cases hL : leastF R with
      | none =>
        rw [hF, hL, decide_eq_true rfl] at hQ
        refine go ?_
        simp only [hF, hL, cuO]
        refine go ?_
        show Q .ret _; refine fin_ret hQ rfl ?_
        rfl
      | some x =>
        rw [hF, hL, decide_eq_false (show ¬ (some x = none) by simp)] at hQ
        refine go ?_
        simp only [hF, hL, cuO]
        refine go ?_
        show Q .ret _; refine fin_ret hQ rfl ?_
        rfl
  · rw [refuB_6] at hQ
    refine go ?_
    rw [hbn]
    generalize hX : replF n (beginF n es) l = X at *
    obtain ⟨R, c⟩ := X
    simp only at hk hkl hkn fo lo hQ ⊢
    by_cases hc : c < l.length
    · rw [decide_eq_false (show ¬ c = l.length by omega), Bool.false_and] at hQ
      refine go ?_
      show Q .ret _; refine fin_ret hQ rfl ?_
      rfl
    rw [decide_eq_true (show c = l.length by omega), Bool.true_and] at hQ
    unfold unfitB at hQ
    cases hF : isFb R with
    | false =>
      rw [hF] at hQ
      refine go ?_
      simp only [hF]
      refine go ?_
      show Q .ret _; refine fin_ret hQ rfl ?_
      rfl
    | true =>
      cases hT : fitFb R with
      | true =>
        rw [hF, hT] at hQ
        refine go ?_
        simp only [hF, hT]
        refine go ?_
        show Q .ret _; refine fin_ret hQ rfl ?_
        rfl
      | false =>
        rw [hF, hT] at hQ
        refine go ?_
        simp only [hF, hT]
        refine go ?_
        show Q .ret _; refine fin_ret hQ rfl ?_
        rfl
theorem wRef5 (n : Nat) (es : List (Int × Int)) (hR : RightG n es) (l : List Cu) (hl : l.length ≤ 1000000) : GoalR n es 5 l := by
  refine ⟨_, rfl, ?_⟩
  generalize hQ : endsAs Try.prog Try.f19 (bv (refuB n es 5 l)) = Q
  simp only [argsSt]
  rw [refuB_5] at hQ
  by_cases h0 : l = []
  · subst h0
    rw [clashB_nil] at hQ
    refine go ?_
    show Q .ret _; refine fin_ret hQ rfl ?_
    rfl
  have hn := hR.1
  have hb := begin_ok hR
  have hbn := hb.near
  have hpos : 0 < l.length := List.length_pos_iff.2 h0
  have rok : ReplOk (beginF n es) (l.take (l.length - 1)) := ⟨by rw [hbn]; exact hb, by omega, by rw [List.length_take]; omega⟩
  obtain ⟨hk, hkl⟩ := replF_ok (l := l.take (l.length - 1)) hb
  have hkn := hk.near
  refine go ?_
  rw [hbn]
  have hch : clashB n (beginF n es) l = (decide ((replF n (beginF n es) (l.take (l.length - 1))).2 = l.length - 1) && lastB n (replF n (beginF n es) (l.take (l.length - 1))).1 (cuAt l (l.length - 1))) := by
    unfold clashB; rw [decide_eq_true (show l ≠ [] from h0), Bool.true_and]
  rw [hch] at hQ
  clear hch
  have htl : (l.take (l.length - 1)).length = l.length - 1 := by rw [List.length_take]; omega
  rw [htl] at hkl
  generalize hX : replF n (beginF n es) (l.take (l.length - 1)) = X at *
  obtain ⟨R, c⟩ := X
  simp only at hk hkl hkn hQ ⊢
  by_cases hc : (c : Int) < l.length - 1
  · rw [decide_eq_false (show ¬ c = l.length - 1 by omega), Bool.false_and] at hQ
    refine go ?_
    show Q .ret _; refine fin_ret hQ rfl ?_
    rfl
  rw [decide_eq_true (show c = l.length - 1 by omega), Bool.true_and] at hQ
  have hi : l.length - 1 < l.length := by omega
  generalize hE : cuAt l (l.length - 1) = e at *
  obtain ⟨A, B, C, P, Q', S⟩ := e
  refine go ?_
  rw [hE]
  have stop : ¬ okT n (A, B, C, P, Q', S) → lastB n R (A, B, C, P, Q', S) = false := fun h => by unfold lastB; rw [decide_eq_false h]; rfl
  have stop2 : ¬ cutF R A.toNat B.toNat C.toNat = ((A, B, C, P, Q', S), true) → lastB n R (A, B, C, P, Q', S) = false := fun h => by
    unfold lastB; simp only; rw [decide_eq_false h, Bool.false_and, Bool.and_false]
  have nn : (n : Int) ≤ 1000 := hn.2.1
  by_cases h1 : minL [A, B, C] < 0
  · rw [stop (fun h => by unfold okT at h; rw [minL3] at h1; simp only at h; omega)] at hQ
    refine go ?_
    show Q .ret _; refine fin_ret hQ rfl ?_
    rfl
  by_cases h2 : (n : Int) ≤ maxL [A, B, C]
  · rw [stop (fun h => by unfold okT at h; rw [maxL3] at h2; simp only at h; omega)] at hQ
    refine go ?_
    show Q .ret _; refine fin_ret hQ rfl ?_
    rfl
  by_cases h3 : B ≤ A
  · rw [stop (fun h => by unfold okT at h; simp only at h; omega)] at hQ
    refine go ?_
    show Q .ret _; refine fin_ret hQ rfl ?_
    rfl
  by_cases h4 : C ≤ B
  · rw [stop (fun h => by unfold okT at h; simp only at h; omega)] at hQ
    refine go ?_
    show Q .ret _; refine fin_ret hQ rfl ?_
    rfl
  rw [minL3] at h1
  rw [maxL3] at h2
  obtain ⟨a, rfl⟩ : ∃ a : Nat, A = (a : Int) := ⟨A.toNat, by omega⟩
  obtain ⟨b, rfl⟩ : ∃ b : Nat, B = (b : Int) := ⟨B.toNat, by omega⟩
  obtain ⟨c', rfl⟩ : ∃ c : Nat, C = (c : Int) := ⟨C.toNat, by omega⟩
  have an : a < n := by omega
  have bn : b < n := by omega
  have cn : c' < n := by omega
  have tri : TriOk R a b c' := ⟨n, hk.toRstOk, by omega, an, bn, cn⟩
  have hok : okT n ((a : Int), (b : Int), (c' : Int), P, Q', S) := by unfold okT; simp only; omega
  have h1' : ¬ minL [(a : Int), (b : Int), (c' : Int)] < 0 := by rw [minL3]; omega
  have h2' : ¬ (n : Int) ≤ maxL [(a : Int), (b : Int), (c' : Int)] := by rw [maxL3]; omega
  simp only [Int.toNat_natCast] at stop2
  cases hkk : (cutF R a b c').2 with
  | false =>
    rw [stop2 (fun h => by rw [h] at hkk; cases hkk)] at hQ
    refine go ?_
    simp only [hkk]
    refine go ?_
    show Q .ret _; refine fin_ret hQ rfl ?_
    rfl
  | true =>
    obtain ⟨p, q, s, he, k⟩ := cutI hk.toRstS (show a < b by omega) (show b < c' by omega) cn (e := (cutF R a b c').1) (Prod.ext rfl hkk)
    have hcut : cutF R a b c' = (((a : Int), (b : Int), (c' : Int), p, q, s), true) := Prod.ext he hkk
    rw [hcut] at stop2
    cases hs : same6 a b c' p q s a b c' P Q' S with
    | false =>
      rw [stop2 (fun h => by
        simp only [Prod.mk.injEq, true_and, and_true] at h
        obtain ⟨rfl, rfl, rfl⟩ := h
        rw [same6_iff.2 ⟨rfl, rfl, rfl, rfl, rfl, rfl⟩] at hs
        cases hs)] at hQ
      refine go ?_
      simp only [hcut]
      refine go ?_
      show Q .ret _; refine fin_ret hQ rfl ?_
      rfl
    | true =>
      obtain ⟨_, _, _, rfl, rfl, rfl⟩ := same6_iff.1 hs
      have dok : DoOk R ((a : Int), (b : Int), (c' : Int), p, q, s) := ⟨n, a, b, c', p, q, s, hk, by omega, rfl, k⟩
      have hlast : lastB n R ((a : Int), (b : Int), (c' : Int), p, q, s) = !(doF R ((a : Int), (b : Int), (c' : Int), p, q, s)).2 := by
        unfold lastB
        simp only [Int.toNat_natCast]
        rw [decide_eq_true hok, decide_eq_true hcut]
        rfl
      rw [hlast] at hQ
      refine go ?_
      simp only [hcut]
      refine go ?_
      show Q .ret _; refine fin_ret hQ rfl ?_
      rfl
theorem ERef_ok : EnvOk Try.prog ERef := ext_ok (ext_ok (ext_ok (ext_ok (ext_ok (ext_ok (ext_ok (ext_ok (ext_ok (ext_ok (ext_ok env0_ok ok32) okBegin) okLow) okRepl) okCorners) okMin) okMax) okCut) okDo) okFour) okLeast
theorem wRef (n : Nat) (es : List (Int × Int)) (hR : RightG n es) (e : Int) (l : List Cu) (hl : l.length ≤ 1000000) : GoalR n es e l := by
  by_cases h2 : e = 2
  · exact wRef23 n es hR e l hl (.inl h2)
  by_cases h3 : e = 3
  · exact wRef23 n es hR e l hl (.inr h3)
  by_cases h5 : e = 5
  · subst h5; exact wRef5 n es hR l hl
  by_cases h4 : e = 4
  · exact wRef46 n es hR e l hl (.inl h4)
  by_cases h6 : e = 6
  · exact wRef46 n es hR e l hl (.inr h6)
  exact wRefN n es hR e l hl h2 h3 h5 h4 h6
noncomputable def specRef : Spec := spec2 asGr asTr fun g t => when (RightG g.1 g.2 ∧ t.2.length ≤ 1000000) (bv (refuB g.1.toNat g.2 t.1 t.2))
theorem okRef : SpecOk 19 specRef := by
  intro us r h
  obtain ⟨x, y, g, t, rfl, hg, hl, h⟩ := spec2_eq h
  obtain ⟨⟨h1, h2⟩, rfl⟩ := when_eq h
  rw [asGr_eq hg, asTr_eq hl]
  have h0 : ((g.1.toNat : Nat) : Int) = g.1 := by have := h1.1; omega
  have hw := wRef g.1.toNat g.2 (by rw [h0]; exact h1) t.1 t.2 h2
  unfold GoalR at hw
  rw [h0] at hw
  exact goodBy2 ERef_ok Try.func19 rfl (Nat.le_of_ble_eq_true rfl) (by decide) hw
@[simp] theorem sRef (n : Nat) (es : List (Int × Int)) (e : Int) (l : List Cu) (h : RightG n es ∧ l.length ≤ 1000000) : specRef [gr n es, tr e l] = some (bv (refuB n es e l)) := by
  unfold specRef; rw [spec2_v (asGr_gr (n : Int) es) (asTr_tr e l)]; exact when_pos _ h
@[simp] theorem callRef {E : Env} {σ : St Unit} {t : Nat} {l : List Operand} : effCall Try.prog E ΩU σ t 19 l = callO E 19 t (argsOf Try.prog ΩU σ [26, 35] l) := eff_call Try.func19 Try.params19
end Go.Proofs.Ytnmocjhpbobahaa.L
