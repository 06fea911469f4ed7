/- U14: carcanetref20.Run of a right graph: as the code's. -/
import Derived.Test.YtnmocjhpbobahaaQ34
import Derived.Test.YtnmocjhpbobahaaQ38
import Derived.Test.YtnmocjhpbobahaaQ39
import Derived.Test.YtnmocjhpbobahaaQ43
import Derived.Test.YtnmocjhpbobahaaQ13
import Derived.Test.YtnmocjhpbobahaaQ46
import Derived.Test.YtnmocjhpbobahaaQ41
set_option linter.unusedVariables false
set_option linter.unusedSimpArgs false
set_option linter.unnecessarySimpa false
namespace Go.Proofs.Ytnmocjhpbobahaa.L
open Go Go.RowKit
set_option maxRecDepth 100000
set_option maxHeartbeats 4000000
attribute [local simp] lendO
noncomputable abbrev ERunT : Env := ext (ext (ext (ext (ext (ext (ext env0 23 spec34) 31 specLowT) 32 specBeginT) 33 specLeastT) 34 specFourT) 35 specFitT) 36 specDoT
abbrev runS (e : Int) (cs : List Cu) (t : Tbl) : St Unit := [(2, trobx 0 []), (3, trobx e cs), (4, smO t)]
theorem wRunT (n : Nat) (es : List (Int × Int)) (hR : RightG n es) : ∃ c, Try.f14.body = some c ∧ RP (regOf Try.prog ERunT 53 u14) c (argsSt 0 [gr n es]) (endsAs Try.prog Try.f14 (tro (runG n es).1 (runG n es).2)) := by
  refine ⟨_, rfl, ?_⟩
  generalize hQ : endsAs Try.prog Try.f14 (tro (runG n es).1 (runG n es).2) = Q
  simp only [argsSt]
  have hn := hR.1
  by_cases h4 : (n : Int) < 4
  · rw [show runG n es = (2, []) by unfold runG; rw [if_pos (by omega)]] at hQ
    refine go ?_
    show Q .ret _; refine fin_ret hQ rfl ?_
    rfl
  cases hlow : decide (0 < (n : Int) ∧ minL (degF n es es.length) < 3) with
  | true =>
    rw [show runG n es = (3, []) by unfold runG; rw [if_neg (by omega), if_pos (of_decide_eq_true hlow)]] at hQ
    have h0 : 0 < (n : Int) := by omega
    have h3 := (of_decide_eq_true hlow).2
    refine go ?_
    show Q .ret _; refine fin_ret hQ rfl ?_
    rfl
  | false =>
  have h0 : 0 < (n : Int) := by omega
  have h3 : ¬ minL (degF n es es.length) < 3 := fun h => (of_decide_eq_false hlow) ⟨h0, h⟩
  rw [show runG n es = runF (n + 1) (beginF n es) [] by unfold runG; rw [if_neg (by omega), if_neg (of_decide_eq_false hlow)]] at hQ
  refine go ?_
  obtain ⟨res, hres⟩ : ∃ res, res = runF (n + 1) (beginF n es) [] := ⟨_, rfl⟩
  rw [← hres] at hQ
  apply rp_loop (fun k σ => (∃ (r : Rst) (t : Tbl) (cs : List Cu), res = runF k r cs ∧ Agr n r t ∧ r.count < k ∧ cs.length + r.count ≤ n ∧ (σ = runS 0 cs t ∨ σ = runS 0 cs t ++ [(50, bv (!true))])) ∨ (k = 0 ∧ res.1 ≠ 0 ∧ ∃ t : Tbl, σ = runS res.1 res.2 t ∨ σ = runS res.1 res.2 t ++ [(35, bv false)])) (n + 1)
  · exact .inl ⟨beginF n es, _, [], hres, begin_agr hR, by have := (begin_ok hR).cnt_le; omega, by have := (begin_ok hR).cnt_le; simp only [List.length_nil]; omega, .inl rfl⟩
  rintro k σ (⟨r, t, cs, hrun, ha, hck, hcl, hσ⟩ | ⟨rfl, hne, t, rfl | rfl⟩)
  rotate_left
  · obtain ⟨e, cs⟩ := res
    simp only at hne hQ
    clear hres
    refine go ?_
    show Q .ret _; refine fin_ret hQ rfl ?_
    rfl
  · obtain ⟨e, cs⟩ := res
    simp only at hne hQ
    clear hres
    refine go ?_
    show Q .ret _; refine fin_ret hQ rfl ?_
    rfl
  have hr := ha.rst
  have hcn := hr.cnt_le
  obtain ⟨k, rfl⟩ : ∃ k' : Nat, k = k' + 1 := ⟨k - 1, by omega⟩
  rw [runF] at hrun
  have good : TbGood t := ⟨by rw [ha.tb.inn]; exact ha.tb, by rw [ha.tb.inn]; omega⟩
  have csl : cs.length ≤ 1000 := by omega
  have eL := ha.least
  have eF := ha.four
  have eT := ha.fits
  clear hres
  rcases hσ with rfl | rfl
  · cases hb : isFb r with
    | true =>
      rw [hb] at eF
      rw [hb, if_pos rfl] at hrun
      cases hf : fitFb r with
      | true =>
        rw [hf] at eT
        rw [hf, if_pos rfl] at hrun
        refine go ?_
        simp only [eF]
        refine go ?_
        simp only [eT]
        refine go ?_
        rw [inBlock_normal]
        exact nxt 0 (by omega) (.inr ⟨rfl, by rw [hrun]; simp, t, .inl (by rw [hrun]; rfl)⟩)
      | false =>
        rw [hf] at eT
        rw [hf, if_neg Bool.noConfusion] at hrun
        refine go ?_
        simp only [eF]
        refine go ?_
        simp only [eT]
        refine go ?_
        rw [inBlock_normal]
        exact nxt 0 (by omega) (.inr ⟨rfl, by rw [hrun]; simp, t, .inr (by rw [hrun]; rfl)⟩)
    | false =>
      rw [hb] at eF
      rw [hb, if_neg Bool.noConfusion] at hrun
      cases hle : leastF r with
      | none =>
        rw [hle] at hrun eL
        refine go ?_
        simp only [eF, eL, cuO]
        refine go ?_
        rw [inBlock_normal]
        exact nxt 0 (by omega) (.inr ⟨rfl, by rw [hrun]; simp, t, .inl (by rw [hrun]; rfl)⟩)
      | some e =>
        rw [hle] at hrun eL
        obtain ⟨a, b, c, p, q, s, rfl, k2, hcut⟩ := leastF_cut hr hle
        obtain ⟨dok, d1, d2⟩ := ha.do (by omega) k2
        have hds := do_step hr k2
        simp only at hrun
        refine go ?_
        simp only [eF, eL, cuO]
        refine go ?_
        cases hd : (doF r ((a : Int), (b : Int), (c : Int), p, q, s)).2 with
        | true =>
          rw [hd, if_pos rfl] at hrun
          rw [hd] at d1
          have hd2 := hds.2 hd
          simp only [d1]
          refine go ?_
          rw [inBlock_normal]
          exact nxt k (by omega) (.inl ⟨_, _, _, hrun, d2, by omega, by rw [List.length_append]; simp only [List.length_cons, List.length_nil]; omega, .inr rfl⟩)
        | false =>
          rw [hd, if_neg Bool.noConfusion] at hrun
          rw [hd] at d1
          simp only [d1]
          refine go ?_
          rw [inBlock_normal]
          exact nxt 0 (by omega) (.inr ⟨rfl, by rw [hrun]; simp, _, .inl (by rw [hrun]; rfl)⟩)
  · cases hb : isFb r with
    | true =>
      rw [hb] at eF
      rw [hb, if_pos rfl] at hrun
      cases hf : fitFb r with
      | true =>
        rw [hf] at eT
        rw [hf, if_pos rfl] at hrun
        refine go ?_
        simp only [eF]
        refine go ?_
        simp only [eT]
        refine go ?_
        rw [inBlock_normal]
        exact nxt 0 (by omega) (.inr ⟨rfl, by rw [hrun]; simp, t, .inl (by rw [hrun]; rfl)⟩)
      | false =>
        rw [hf] at eT
        rw [hf, if_neg Bool.noConfusion] at hrun
        refine go ?_
        simp only [eF]
        refine go ?_
        simp only [eT]
        refine go ?_
        rw [inBlock_normal]
        exact nxt 0 (by omega) (.inr ⟨rfl, by rw [hrun]; simp, t, .inr (by rw [hrun]; rfl)⟩)
    | false =>
      rw [hb] at eF
      rw [hb, if_neg Bool.noConfusion] at hrun
      cases hle : leastF r with
      | none =>
        rw [hle] at hrun eL
        refine go ?_
        simp only [eF, eL, cuO]
        refine go ?_
        rw [inBlock_normal]
        exact nxt 0 (by omega) (.inr ⟨rfl, by rw [hrun]; simp, t, .inl (by rw [hrun]; rfl)⟩)
      | some e =>
        rw [hle] at hrun eL
        obtain ⟨a, b, c, p, q, s, rfl, k2, hcut⟩ := leastF_cut hr hle
        obtain ⟨dok, d1, d2⟩ := ha.do (by omega) k2
        have hds := do_step hr k2
        simp only at hrun
        refine go ?_
        simp only [eF, eL, cuO]
        refine go ?_
        cases hd : (doF r ((a : Int), (b : Int), (c : Int), p, q, s)).2 with
        | true =>
          rw [hd, if_pos rfl] at hrun
          rw [hd] at d1
          have hd2 := hds.2 hd
          simp only [d1]
          refine go ?_
          rw [inBlock_normal]
          exact nxt k (by omega) (.inl ⟨_, _, _, hrun, d2, by omega, by rw [List.length_append]; simp only [List.length_cons, List.length_nil]; omega, .inr rfl⟩)
        | false =>
          rw [hd, if_neg Bool.noConfusion] at hrun
          rw [hd] at d1
          simp only [d1]
          refine go ?_
          rw [inBlock_normal]
          exact nxt 0 (by omega) (.inr ⟨rfl, by rw [hrun]; simp, _, .inl (by rw [hrun]; rfl)⟩)
theorem ERunT_ok : EnvOk Try.prog ERunT := ext_ok (ext_ok (ext_ok (ext_ok (ext_ok (ext_ok (ext_ok env0_ok ok34) okLowT) okBeginT) okLeastT) okFourT) okFitT) okDoT
noncomputable def specRunT : Spec := spec1 asGr fun g => when (RightG g.1 g.2) (tro (runG g.1.toNat g.2).1 (runG g.1.toNat g.2).2)
theorem okRunT : SpecOk 14 specRunT := by
  intro us r h
  obtain ⟨x, l, rfl, hl, h⟩ := spec1_eq h
  obtain ⟨h1, rfl⟩ := when_eq h
  rw [asGr_eq hl]
  have h0 : ((l.1.toNat : Nat) : Int) = l.1 := by have := h1.1; omega
  have hw := wRunT l.1.toNat l.2 (by rw [h0]; exact h1)
  rw [h0] at hw
  exact goodBy2 ERunT_ok Try.func14 rfl (Nat.le_of_ble_eq_true rfl) (by decide) hw
@[simp] theorem sRunT (n : Nat) (es : List (Int × Int)) (h : RightG n es) : specRunT [gr n es] = some (tro (runG n es).1 (runG n es).2) := by
  unfold specRunT; rw [spec1_v _ _ _ _ (asGr_gr (n : Int) es)]; exact when_pos _ h
@[simp] theorem callRunT {E : Env} {σ : St Unit} {t : Nat} {l : List Operand} : effCall Try.prog E ΩU σ t 14 l = callO E 14 t (argsOf Try.prog ΩU σ [26] l) := eff_call Try.func14 Try.params14
end Go.Proofs.Ytnmocjhpbobahaa.L
