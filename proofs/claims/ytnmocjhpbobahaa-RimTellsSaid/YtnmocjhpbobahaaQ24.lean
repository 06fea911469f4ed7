/- R52: rest.wide. -/
import Derived.Test.YtnmocjhpbobahaaQ17
set_option linter.unusedVariables false
set_option linter.unusedSimpArgs false
set_option linter.unnecessarySimpa false
namespace Go.Proofs.Ytnmocjhpbobahaa.L
open Go Go.RowKit
set_option maxRecDepth 100000
set_option maxHeartbeats 4000000
attribute [local simp] lendO idx3_0 idx3_1 idx3_2
noncomputable abbrev EWide : Env := ext (ext (ext (ext (ext (ext env0 43 specCorners) 62 specBeside) 71 specIndex) 72 specInner) 54 specLeave) 55 specJoin
theorem wideF_no {r : Rst} {u x y s t : Nat} (h : s = t ∨ innB r x = true ∨ innB r y = true ∨ innB r s = true ∨ innB r t = true) : wideF r u x y s t = (r, false) := by unfold wideF; rw [if_pos h]
theorem wWide0 (n : Nat) (r : Rst) (hr : RstS n r) (hn : n ≤ 1000000) (u x y s t : Nat) (hu : u < n) (hx : x < n) (hy : y < n) (hs : s < n) (ht : t < n) (hxy : x < y) (hxt : x ≠ t) (h0 : 0 < (nthR r.near y).length) (hc : 0 ≤ r.count ∧ r.count ≤ n) : ∃ k, Try.f52.body = some k ∧ RP (regOf Try.prog EWide (103 + zeroN) u52) k (argsSt 0 [one (.c (rstO r)), cu6 ((u : Int), (x : Int), (y : Int), -1, (s : Int), (t : Int))]) (endsAsL Try.prog Try.f52 (rstO r) (lentSV (rstO (wideF r u x y s t).1) (bv (wideF r u x y s t).2))) := by
  refine ⟨_, rfl, ?_⟩
  generalize hQ : endsAsL Try.prog Try.f52 (rstO r) (lentSV (rstO (wideF r u x y s t).1) (bv (wideF r u x y s t).2)) = Q
  simp only [argsSt]
  have c1 := hr.near
  have c2 := hr.mark
  have hr' := hr.toRstOk
  have kx : HasOk r x := ⟨n, hr', hn, hx⟩
  have ky : HasOk r y := ⟨n, hr', hn, hy⟩
  have ks : HasOk r s := ⟨n, hr', hn, hs⟩
  have kt : HasOk r t := ⟨n, hr', hn, ht⟩
  have lv : LeaveOk r y := ⟨n, hr, hn, hy, h0, hc⟩
  have jo : JoinOk (r.leave y) x t := ⟨n, (hr.leave hy).toRstOk, hn, hx, ht, hxt⟩
  by_cases hst : s = t
  · subst hst
    rw [wideF_no (.inl rfl)] at hQ
    refine go ?_
    show Q .ret _
    refine finL_ret hQ rfl rfl rfl
  have hst' : ¬ (s : Int) = t := by omega
  refine go ?_
  cases i1 : innB r x with
  | true =>
    rw [wideF_no (.inr (.inl i1))] at hQ
    apply rp_round
    refine go ?_
    simp only [i1]
    refine go ?_
    show Q .ret _
    refine finL_ret hQ rfl rfl rfl
  | false =>
  apply rp_round
  refine go ?_
  simp only [i1]
  refine go ?_
  cases i2 : innB r y with
  | true =>
    rw [wideF_no (.inr (.inr (.inl i2)))] at hQ
    apply rp_round
    refine go ?_
    simp only [i2]
    refine go ?_
    show Q .ret _
    refine finL_ret hQ rfl rfl rfl
  | false =>
  apply rp_round
  refine go ?_
  simp only [i2]
  refine go ?_
  cases i3 : innB r s with
  | true =>
    rw [wideF_no (.inr (.inr (.inr (.inl i3))))] at hQ
    apply rp_round
    refine go ?_
    simp only [i3]
    refine go ?_
    show Q .ret _
    refine finL_ret hQ rfl rfl rfl
  | false =>
  apply rp_round
  refine go ?_
  simp only [i3]
  refine go ?_
  have ml : ((r.leave y).join x t).mark.length = n := hr.mark
  cases i4 : innB r t with
  | true =>
    rw [wideF_no (.inr (.inr (.inr (.inr i4))))] at hQ
    apply rp_round
    refine go ?_
    simp only [i4]
    refine go ?_
    show Q .ret _
    refine finL_ret hQ rfl rfl rfl
  | false =>
  apply rp_round
  refine go ?_
  simp only [i4]
  refine go ?_
  have e : wideF r u x y s t = (⟨((r.leave y).join x t).near, (((((r.leave y).join x t).mark.set u 2).set x 1).set s 1).set t 1, ((r.leave y).join x t).gone, ((r.leave y).join x t).count⟩, true) := by
    unfold wideF; rw [if_neg (by rintro (h | h | h | h | h) <;> simp_all)]
  rw [e] at hQ
  apply rp_round
  refine go ?_
  apply rp_round
  refine go ?_
  apply rp_round
  refine go ?_
  apply rp_round
  refine go ?_
  apply rp_round
  refine go ?_
  show Q .ret _
  refine finL_ret hQ rfl rfl ?_
  rfl
theorem wWide1 (n : Nat) (r : Rst) (hr : RstS n r) (hn : n ≤ 1000000) (u x y s t : Nat) (hu : u < n) (hx : x < n) (hy : y < n) (hs : s < n) (ht : t < n) (hxy : x < y) (hxt : x ≠ t) (h0 : 0 < (nthR r.near y).length) (hc : 0 ≤ r.count ∧ r.count ≤ n) : ∃ k, Try.f52.body = some k ∧ RP (regOf Try.prog EWide (103 + zeroN) u52) k (argsSt 0 [one (.c (rstO r)), cu6 ((x : Int), (u : Int), (y : Int), (s : Int), -1, (t : Int))]) (endsAsL Try.prog Try.f52 (rstO r) (lentSV (rstO (wideF r u x y s t).1) (bv (wideF r u x y s t).2))) := by
  refine ⟨_, rfl, ?_⟩
  generalize hQ : endsAsL Try.prog Try.f52 (rstO r) (lentSV (rstO (wideF r u x y s t).1) (bv (wideF r u x y s t).2)) = Q
  simp only [argsSt]
  have c1 := hr.near
  have c2 := hr.mark
  have hr' := hr.toRstOk
  have kx : HasOk r x := ⟨n, hr', hn, hx⟩
  have ky : HasOk r y := ⟨n, hr', hn, hy⟩
  have ks : HasOk r s := ⟨n, hr', hn, hs⟩
  have kt : HasOk r t := ⟨n, hr', hn, ht⟩
  have lv : LeaveOk r y := ⟨n, hr, hn, hy, h0, hc⟩
  have jo : JoinOk (r.leave y) x t := ⟨n, (hr.leave hy).toRstOk, hn, hx, ht, hxt⟩
  by_cases hst : s = t
  · subst hst
    rw [wideF_no (.inl rfl)] at hQ
    refine go ?_
    show Q .ret _
    refine finL_ret hQ rfl rfl rfl
  have hst' : ¬ (s : Int) = t := by omega
  refine go ?_
  cases i1 : innB r x with
  | true =>
    rw [wideF_no (.inr (.inl i1))] at hQ
    apply rp_round
    refine go ?_
    simp only [i1]
    refine go ?_
    show Q .ret _
    refine finL_ret hQ rfl rfl rfl
  | false =>
  apply rp_round
  refine go ?_
  simp only [i1]
  refine go ?_
  cases i2 : innB r y with
  | true =>
    rw [wideF_no (.inr (.inr (.inl i2)))] at hQ
    apply rp_round
    refine go ?_
    simp only [i2]
    refine go ?_
    show Q .ret _
    refine finL_ret hQ rfl rfl rfl
  | false =>
  apply rp_round
  refine go ?_
  simp only [i2]
  refine go ?_
  cases i3 : innB r s with
  | true =>
    rw [wideF_no (.inr (.inr (.inr (.inl i3))))] at hQ
    apply rp_round
    refine go ?_
    simp only [i3]
    refine go ?_
    show Q .ret _
    refine finL_ret hQ rfl rfl rfl
  | false =>
  apply rp_round
  refine go ?_
  simp only [i3]
  refine go ?_
  have ml : ((r.leave y).join x t).mark.length = n := hr.mark
  cases i4 : innB r t with
  | true =>
    rw [wideF_no (.inr (.inr (.inr (.inr i4))))] at hQ
    apply rp_round
    refine go ?_
    simp only [i4]
    refine go ?_
    show Q .ret _
    refine finL_ret hQ rfl rfl rfl
  | false =>
  apply rp_round
  refine go ?_
  simp only [i4]
  refine go ?_
  have e : wideF r u x y s t = (⟨((r.leave y).join x t).near, (((((r.leave y).join x t).mark.set u 2).set x 1).set s 1).set t 1, ((r.leave y).join x t).gone, ((r.leave y).join x t).count⟩, true) := by
    unfold wideF; rw [if_neg (by rintro (h | h | h | h | h) <;> simp_all)]
  rw [e] at hQ
  apply rp_round
  refine go ?_
  apply rp_round
  refine go ?_
  apply rp_round
  refine go ?_
  apply rp_round
  refine go ?_
  apply rp_round
  refine go ?_
  show Q .ret _
  refine finL_ret hQ rfl rfl ?_
  rfl
theorem wWide2 (n : Nat) (r : Rst) (hr : RstS n r) (hn : n ≤ 1000000) (u x y s t : Nat) (hu : u < n) (hx : x < n) (hy : y < n) (hs : s < n) (ht : t < n) (hxy : x < y) (hxt : x ≠ t) (h0 : 0 < (nthR r.near y).length) (hc : 0 ≤ r.count ∧ r.count ≤ n) : ∃ k, Try.f52.body = some k ∧ RP (regOf Try.prog EWide (103 + zeroN) u52) k (argsSt 0 [one (.c (rstO r)), cu6 ((x : Int), (y : Int), (u : Int), (s : Int), (t : Int), -1)]) (endsAsL Try.prog Try.f52 (rstO r) (lentSV (rstO (wideF r u x y s t).1) (bv (wideF r u x y s t).2))) := by
  refine ⟨_, rfl, ?_⟩
  generalize hQ : endsAsL Try.prog Try.f52 (rstO r) (lentSV (rstO (wideF r u x y s t).1) (bv (wideF r u x y s t).2)) = Q
  simp only [argsSt]
  have c1 := hr.near
  have c2 := hr.mark
  have hr' := hr.toRstOk
  have kx : HasOk r x := ⟨n, hr', hn, hx⟩
  have ky : HasOk r y := ⟨n, hr', hn, hy⟩
  have ks : HasOk r s := ⟨n, hr', hn, hs⟩
  have kt : HasOk r t := ⟨n, hr', hn, ht⟩
  have lv : LeaveOk r y := ⟨n, hr, hn, hy, h0, hc⟩
  have jo : JoinOk (r.leave y) x t := ⟨n, (hr.leave hy).toRstOk, hn, hx, ht, hxt⟩
  by_cases hst : s = t
  · subst hst
    rw [wideF_no (.inl rfl)] at hQ
    refine go ?_
    show Q .ret _
    refine finL_ret hQ rfl rfl rfl
  have hst' : ¬ (s : Int) = t := by omega
  refine go ?_
  cases i1 : innB r x with
  | true =>
    rw [wideF_no (.inr (.inl i1))] at hQ
    apply rp_round
    refine go ?_
    simp only [i1]
    refine go ?_
    show Q .ret _
    refine finL_ret hQ rfl rfl rfl
  | false =>
  apply rp_round
  refine go ?_
  simp only [i1]
  refine go ?_
  cases i2 : innB r y with
  | true =>
    rw [wideF_no (.inr (.inr (.inl i2)))] at hQ
    apply rp_round
    refine go ?_
    simp only [i2]
    refine go ?_
    show Q .ret _
    refine finL_ret hQ rfl rfl rfl
  | false =>
  apply rp_round
  refine go ?_
  simp only [i2]
  refine go ?_
  cases i3 : innB r s with
  | true =>
    rw [wideF_no (.inr (.inr (.inr (.inl i3))))] at hQ
    apply rp_round
    refine go ?_
    simp only [i3]
    refine go ?_
    show Q .ret _
    refine finL_ret hQ rfl rfl rfl
  | false =>
  apply rp_round
  refine go ?_
  simp only [i3]
  refine go ?_
  have ml : ((r.leave y).join x t).mark.length = n := hr.mark
  cases i4 : innB r t with
  | true =>
    rw [wideF_no (.inr (.inr (.inr (.inr i4))))] at hQ
    apply rp_round
    refine go ?_
    simp only [i4]
    refine go ?_
    show Q .ret _
    refine finL_ret hQ rfl rfl rfl
  | false =>
  apply rp_round
  refine go ?_
  simp only [i4]
  refine go ?_
  have e : wideF r u x y s t = (⟨((r.leave y).join x t).near, (((((r.leave y).join x t).mark.set u 2).set x 1).set s 1).set t 1, ((r.leave y).join x t).gone, ((r.leave y).join x t).count⟩, true) := by
    unfold wideF; rw [if_neg (by rintro (h | h | h | h | h) <;> simp_all)]
  rw [e] at hQ
  apply rp_round
  refine go ?_
  apply rp_round
  refine go ?_
  apply rp_round
  refine go ?_
  apply rp_round
  refine go ?_
  apply rp_round
  refine go ?_
  show Q .ret _
  refine finL_ret hQ rfl rfl ?_
  rfl
theorem EWide_ok : EnvOk Try.prog EWide := ext_ok (ext_ok (ext_ok (ext_ok (ext_ok (ext_ok env0_ok okCorners) okBeside) okIndex) okInner) okLeave) okJoin
/-- A cut, one of whose outer neighbours is -1. -/
def wideC (r : Rst) (c : Cu) : Rst × Bool :=
  if c.2.2.2.1 = -1 then wideF r c.1.toNat c.2.1.toNat c.2.2.1.toNat c.2.2.2.2.1.toNat c.2.2.2.2.2.toNat
  else if c.2.2.2.2.1 = -1 then wideF r c.2.1.toNat c.1.toNat c.2.2.1.toNat c.2.2.2.1.toNat c.2.2.2.2.2.toNat
  else wideF r c.2.2.1.toNat c.1.toNat c.2.1.toNat c.2.2.2.1.toNat c.2.2.2.2.1.toNat
def WideOk (r : Rst) (c : Cu) : Prop := ∃ n u x y s t : Nat, RstS n r ∧ n ≤ 1000000 ∧ u < n ∧ x < n ∧ y < n ∧ s < n ∧ t < n ∧ x < y ∧ x ≠ t ∧ 0 < (nthR r.near y).length ∧ (0 ≤ r.count ∧ r.count ≤ n) ∧ (c = ((u : Int), (x : Int), (y : Int), -1, (s : Int), (t : Int)) ∨ c = ((x : Int), (u : Int), (y : Int), (s : Int), -1, (t : Int)) ∨ c = ((x : Int), (y : Int), (u : Int), (s : Int), (t : Int), -1))
theorem wideC_0 (r : Rst) (u x y s t : Nat) : wideC r ((u : Int), (x : Int), (y : Int), -1, (s : Int), (t : Int)) = wideF r u x y s t := by simp [wideC]
theorem wideC_1 (r : Rst) (u x y s t : Nat) : wideC r ((x : Int), (u : Int), (y : Int), (s : Int), -1, (t : Int)) = wideF r u x y s t := by
  unfold wideC; simp only; rw [if_neg (by omega)]; simp
theorem wideC_2 (r : Rst) (u x y s t : Nat) : wideC r ((x : Int), (y : Int), (u : Int), (s : Int), (t : Int), -1) = wideF r u x y s t := by
  unfold wideC; simp only; rw [if_neg (by omega), if_neg (by omega)]; simp
noncomputable def specWide : Spec := fun us => match us with
  | [x, y] => match asRstO x, asCu y with
    | some r, some c => whenC (WideOk r c) (lentSV (rstO (wideC r c).1) (bv (wideC r c).2))
    | _, _ => none
  | _ => none
theorem okWide : SpecOk 52 specWide := by
  intro us R h
  unfold specWide at h
  split at h
  · split at h
    · next a b _ r c h1 h2 =>
      obtain ⟨⟨n, u, x, y, s, t, hr, hn, hu, hx, hy, hs, ht, hxy, hxt, h0, hc, hh⟩, rfl⟩ := whenC_eq h
      rw [asRstO_eq h1, asCu_eq h2]
      rcases hh with rfl | rfl | rfl
      · have hw := wWide0 n r hr hn u x y s t hu hx hy hs ht hxy hxt h0 hc
        rw [wideC_0]
        show GoodE Try.prog 52 (one (.c (rstO r)) :: _) _
        unfold GoodE
        exact goodBy2L EWide_ok Try.func52 rfl (Nat.le_of_ble_eq_true rfl) (by decide) hw
      · have hw := wWide1 n r hr hn u x y s t hu hx hy hs ht hxy hxt h0 hc
        rw [wideC_1]
        show GoodE Try.prog 52 (one (.c (rstO r)) :: _) _
        unfold GoodE
        exact goodBy2L EWide_ok Try.func52 rfl (Nat.le_of_ble_eq_true rfl) (by decide) hw
      · have hw := wWide2 n r hr hn u x y s t hu hx hy hs ht hxy hxt h0 hc
        rw [wideC_2]
        show GoodE Try.prog 52 (one (.c (rstO r)) :: _) _
        unfold GoodE
        exact goodBy2L EWide_ok Try.func52 rfl (Nat.le_of_ble_eq_true rfl) (by decide) hw
    · cases h
  · cases h
@[simp] theorem sWideR {r : Rst} {a b c p q s : Int} (h : WideOk r (a, b, c, p, q, s)) : specWide [⟨.one, [.c (rstO r)]⟩, cu6 (a, b, c, p, q, s)] = some (lentSV (rstO (wideC r (a, b, c, p, q, s)).1) (bv (wideC r (a, b, c, p, q, s)).2)) := by
  unfold specWide
  simp only [asRstO_rst, asCu_cu]
  exact whenC_pos _ h
@[simp] theorem sWideF {l : List (Cell Unit)} {y : SV Unit} : specWide [⟨.one, [.c (.bx false () l)]⟩, y] = none := by
  unfold specWide
  simp only [asRstO_fro]
@[simp] theorem callWide {E : Env} {σ : St Unit} {t : Nat} {l : List Operand} : effCall Try.prog E ΩU σ t 52 l = callO E 52 t (argsOf Try.prog ΩU σ [63, 59] l) := eff_call Try.func52 Try.params52
@[simp] theorem lendWide {E : Env} {σ : St Unit} {t s : Nat} {l : List Operand} : effLend Try.prog E ΩU σ t 52 (.tmp s :: l) = lendO E σ t s 52 [59] l := eff_lend Try.func52 Try.params52
end Go.Proofs.Ytnmocjhpbobahaa.L
