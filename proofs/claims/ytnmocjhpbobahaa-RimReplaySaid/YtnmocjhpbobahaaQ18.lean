/- R53: rest.wants. R52: rest.wide. R46: rest.cut. -/
import Derived.Test.YtnmocjhpbobahaaQ16
import Derived.Test.YtnmocjhpbobahaaQ17
import Derived.Test.YtnmocjhpbobahaaQ14
set_option linter.unusedVariables false
set_option linter.unusedSimpArgs false
set_option linter.unnecessarySimpa false
namespace Go.Proofs.Ytnmocjhpbobahaa.L
open Go Go.RowKit
set_option maxRecDepth 100000
set_option maxHeartbeats 4000000
attribute [local simp] mk0 mk1 mk2
theorem wWants (n : Nat) (r : Rst) (hr : RstOk n r) (hn : n ≤ 1000000) (a b c p q s : Nat) (ha : a < n) (hb : b < n) (hc : c < n) (hp : p < n) (hq : q < n) (hs : s < n) (hm : ∀ v, v < n → nth r.mark v = 0 ∨ nth r.mark v = 1 ∨ nth r.mark v = 2)  : ∃ k, Try.f53.body = some k ∧ RP (regOf Try.prog EWants 167 u53) k (argsSt 0 [rf r, cu6 ((a : Int), (b : Int), (c : Int), (p : Int), (q : Int), (s : Int))]) (endsAs Try.prog Try.f53 (wnB (wantsF r a b c p q s).1 (wantsF r a b c p q s).2)) := by
  by_cases hh : p = q ∨ p = s ∨ q = s ∨ 1 < cnt3 r 2 a b c ∨ 2 < cnt3 r 1 a b c
  · exact wWants0 n r hr hn a b c p q s ha hb hc hp hq hs hm hh
  · have h1 : ¬ p = q := fun h => hh (.inl h)
    have h2 : ¬ p = s := fun h => hh (.inr (.inl h))
    have h3 : ¬ q = s := fun h => hh (.inr (.inr (.inl h)))
    have h4 : ¬ 1 < cnt3 r 2 a b c := fun h => hh (.inr (.inr (.inr (.inl h))))
    have h5 : ¬ 2 < cnt3 r 1 a b c := fun h => hh (.inr (.inr (.inr (.inr h))))
    by_cases h6 : cnt3 r 2 a b c = 1
    · exact wWants1 n r hr hn a b c p q s ha hb hc hp hq hs hm h1 h2 h3 h4 h5 h6
    · exact wWants2 n r hr hn a b c p q s ha hb hc hp hq hs hm h1 h2 h3 h4 h5 h6
theorem EWants_ok : EnvOk Try.prog EWants := ext_ok (ext_ok (ext_ok env0_ok okCorners) okBeside) okInner
def WantsOk (r : Rst) (a b c p q s : Nat) : Prop := ∃ n : Nat, RstOk n r ∧ n ≤ 1000000 ∧ (a < n ∧ b < n ∧ c < n ∧ p < n ∧ q < n ∧ s < n) ∧ ∀ v, v < n → nth r.mark v = 0 ∨ nth r.mark v = 1 ∨ nth r.mark v = 2
noncomputable def specWants : Spec := fun us => match us with
  | [x, y] => match asRst x, asCu y with
    | some r, some e => whenC ((0 ≤ e.1 ∧ 0 ≤ e.2.1 ∧ 0 ≤ e.2.2.1 ∧ 0 ≤ e.2.2.2.1 ∧ 0 ≤ e.2.2.2.2.1 ∧ 0 ≤ e.2.2.2.2.2) ∧ WantsOk r e.1.toNat e.2.1.toNat e.2.2.1.toNat e.2.2.2.1.toNat e.2.2.2.2.1.toNat e.2.2.2.2.2.toNat) (wnB (wantsF r e.1.toNat e.2.1.toNat e.2.2.1.toNat e.2.2.2.1.toNat e.2.2.2.2.1.toNat e.2.2.2.2.2.toNat).1 (wantsF r e.1.toNat e.2.1.toNat e.2.2.1.toNat e.2.2.2.1.toNat e.2.2.2.2.1.toNat e.2.2.2.2.2.toNat).2)
    | _, _ => none
  | _ => none
theorem okWants : SpecOk 53 specWants := by
  intro us R h
  unfold specWants at h
  split at h
  · split at h
    · next x y _ r e h1 h2 =>
      obtain ⟨⟨⟨g1, g2, g3, g4, g5, g6⟩, n, hr, hn, ⟨a1, a2, a3, a4, a5, a6⟩, hm⟩, rfl⟩ := whenC_eq h
      rw [asRst_eq h1, asCu_eq h2]
      have hw := wWants n r hr hn e.1.toNat e.2.1.toNat e.2.2.1.toNat e.2.2.2.1.toNat e.2.2.2.2.1.toNat e.2.2.2.2.2.toNat a1 a2 a3 a4 a5 a6 hm
      rw [show (e.1.toNat : Int) = e.1 by omega, show (e.2.1.toNat : Int) = e.2.1 by omega, show (e.2.2.1.toNat : Int) = e.2.2.1 by omega, show (e.2.2.2.1.toNat : Int) = e.2.2.2.1 by omega, show (e.2.2.2.2.1.toNat : Int) = e.2.2.2.2.1 by omega, show (e.2.2.2.2.2.toNat : Int) = e.2.2.2.2.2 by omega] at hw
      exact goodBy2 EWants_ok Try.func53 rfl (Nat.le_of_ble_eq_true rfl) (by decide) hw
    · cases h
  · cases h
@[simp] theorem sWantsR {r : Rst} {a b c p q s : Nat} (h : WantsOk r a b c p q s) : specWants [⟨.one, [.c (rstF r)]⟩, cu6 ((a : Int), (b : Int), (c : Int), (p : Int), (q : Int), (s : Int))] = some (wnB (wantsF r a b c p q s).1 (wantsF r a b c p q s).2) := by
  unfold specWants
  simp only [asRst_rst, asCu_cu]
  exact whenC_pos _ ⟨by omega, h⟩
@[simp] theorem callWants {E : Env} {σ : St Unit} {t : Nat} {l : List Operand} : effCall Try.prog E ΩU σ t 53 l = callO E 53 t (argsOf Try.prog ΩU σ [63, 59] l) := eff_call Try.func53 Try.params53
end Go.Proofs.Ytnmocjhpbobahaa.L
namespace Go.Proofs.Ytnmocjhpbobahaa.L
open Go Go.RowKit
set_option maxRecDepth 100000
set_option maxHeartbeats 4000000
attribute [local simp] lendO idx3_0 idx3_1 idx3_2
noncomputable abbrev EWide : Env := ext (ext (ext (ext (ext (ext env0 43 specCorners) 62 specBeside) 71 specIndex) 72 specInner) 54 specLeave) 55 specJoin
theorem wideF_no {r : Rst} {u x y s t : Nat} (h : s = t ∨ innB r x = true ∨ innB r y = true ∨ innB r s = true ∨ innB r t = true) : wideF r u x y s t = (r, false) := by unfold wideF; rw [if_pos h]
theorem wWide0 (n : Nat) (r : Rst) (hr : RstS n r) (hn : n ≤ 1000000) (u x y s t : Nat) (hu : u < n) (hx : x < n) (hy : y < n) (hs : s < n) (ht : t < n) (hxy : x < y) (hxt : x ≠ t) (h0 : 0 < (nthR r.near y).length) (hc : 0 ≤ r.count ∧ r.count ≤ n) : ∃ k, Try.f52.body = some k ∧ RP (regOf Try.prog EWide (103 + zeroN) u52) k (argsSt 0 [one (.c (rstO r)), cu6 ((u : Int), (x : Int), (y : Int), -1, (s : Int), (t : Int))]) (endsAsL Try.prog Try.f52 (rstO r) (lentSV (rstO (wideF r u x y s t).1) (bv (wideF r u x y s t).2))) := by
  refine ⟨_, rfl, ?_⟩
  generalize hQ : endsAsL Try.prog Try.f52 (rstO r) (lentSV (rstO (wideF r u x y s t).1) (bv (wideF r u x y s t).2)) = Q
  simp only [argsSt]
  have c1 := hr.near
  have c2 := hr.mark
  have hr' := hr.toRstOk
  have kx : HasOk r x := ⟨n, hr', hn, hx⟩
  have ky : HasOk r y := ⟨n, hr', hn, hy⟩
  have ks : HasOk r s := ⟨n, hr', hn, hs⟩
  have kt : HasOk r t := ⟨n, hr', hn, ht⟩
  have lv : LeaveOk r y := ⟨n, hr, hn, hy, h0, hc⟩
  have jo : JoinOk (r.leave y) x t := ⟨n, (hr.leave hy).toRstOk, hn, hx, ht, hxt⟩
  by_cases hst : s = t
  · subst hst
    rw [wideF_no (.inl rfl)] at hQ
    refine go ?_
    show Q .ret _
    refine finL_ret hQ rfl rfl rfl
  have hst' : ¬ (s : Int) = t := by omega
  refine go ?_
  cases i1 : innB r x with
  | true =>
    rw [wideF_no (.inr (.inl i1))] at hQ
    apply rp_round
    refine go ?_
    simp only [i1]
    refine go ?_
    show Q .ret _
    refine finL_ret hQ rfl rfl rfl
  | false =>
  apply rp_round
  refine go ?_
  simp only [i1]
  refine go ?_
  cases i2 : innB r y with
  | true =>
    rw [wideF_no (.inr (.inr (.inl i2)))] at hQ
    apply rp_round
    refine go ?_
    simp only [i2]
    refine go ?_
    show Q .ret _
    refine finL_ret hQ rfl rfl rfl
  | false =>
  apply rp_round
  refine go ?_
  simp only [i2]
  refine go ?_
  cases i3 : innB r s with
  | true =>
    rw [wideF_no (.inr (.inr (.inr (.inl i3))))] at hQ
    apply rp_round
    refine go ?_
    simp only [i3]
    refine go ?_
    show Q .ret _
    refine finL_ret hQ rfl rfl rfl
  | false =>
  apply rp_round
  refine go ?_
  simp only [i3]
  refine go ?_
  have ml : ((r.leave y).join x t).mark.length = n := hr.mark
  cases i4 : innB r t with
  | true =>
    rw [wideF_no (.inr (.inr (.inr (.inr i4))))] at hQ
    apply rp_round
    refine go ?_
    simp only [i4]
    refine go ?_
    show Q .ret _
    refine finL_ret hQ rfl rfl rfl
  | false =>
  apply rp_round
  refine go ?_
  simp only [i4]
  refine go ?_
  have e : wideF r u x y s t = (⟨((r.leave y).join x t).near, (((((r.leave y).join x t).mark.set u 2).set x 1).set s 1).set t 1, ((r.leave y).join x t).gone, ((r.leave y).join x t).count⟩, true) := by
    unfold wideF; rw [if_neg (by rintro (h | h | h | h | h) <;> simp_all)]
  rw [e] at hQ
  apply rp_round
  refine go ?_
  apply rp_round
  refine go ?_
  apply rp_round
  refine go ?_
  apply rp_round
  refine go ?_
  apply rp_round
  refine go ?_
  show Q .ret _
  refine finL_ret hQ rfl rfl ?_
  rfl
theorem wWide1 (n : Nat) (r : Rst) (hr : RstS n r) (hn : n ≤ 1000000) (u x y s t : Nat) (hu : u < n) (hx : x < n) (hy : y < n) (hs : s < n) (ht : t < n) (hxy : x < y) (hxt : x ≠ t) (h0 : 0 < (nthR r.near y).length) (hc : 0 ≤ r.count ∧ r.count ≤ n) : ∃ k, Try.f52.body = some k ∧ RP (regOf Try.prog EWide (103 + zeroN) u52) k (argsSt 0 [one (.c (rstO r)), cu6 ((x : Int), (u : Int), (y : Int), (s : Int), -1, (t : Int))]) (endsAsL Try.prog Try.f52 (rstO r) (lentSV (rstO (wideF r u x y s t).1) (bv (wideF r u x y s t).2))) := by
  refine ⟨_, rfl, ?_⟩
  generalize hQ : endsAsL Try.prog Try.f52 (rstO r) (lentSV (rstO (wideF r u x y s t).1) (bv (wideF r u x y s t).2)) = Q
  simp only [argsSt]
  have c1 := hr.near
  have c2 := hr.mark
  have hr' := hr.toRstOk
  have kx : HasOk r x := ⟨n, hr', hn, hx⟩
  have ky : HasOk r y := ⟨n, hr', hn, hy⟩
  have ks : HasOk r s := ⟨n, hr', hn, hs⟩
  have kt : HasOk r t := ⟨n, hr', hn, ht⟩
  have lv : LeaveOk r y := ⟨n, hr, hn, hy, h0, hc⟩
  have jo : JoinOk (r.leave y) x t := ⟨n, (hr.leave hy).toRstOk, hn, hx, ht, hxt⟩
  by_cases hst : s = t
  · subst hst
    rw [wideF_no (.inl rfl)] at hQ
    refine go ?_
    show Q .ret _
    refine finL_ret hQ rfl rfl rfl
  have hst' : ¬ (s : Int) = t := by omega
  refine go ?_
  cases i1 : innB r x with
  | true =>
    rw [wideF_no (.inr (.inl i1))] at hQ
    apply rp_round
    refine go ?_
    simp only [i1]
    refine go ?_
    show Q .ret _
    refine finL_ret hQ rfl rfl rfl
  | false =>
  apply rp_round
  refine go ?_
  simp only [i1]
  refine go ?_
  cases i2 : innB r y with
  | true =>
    rw [wideF_no (.inr (.inr (.inl i2)))] at hQ
    apply rp_round
    refine go ?_
    simp only [i2]
    refine go ?_
    show Q .ret _
    refine finL_ret hQ rfl rfl rfl
  | false =>
  apply rp_round
  refine go ?_
  simp only [i2]
  refine go ?_
  cases i3 : innB r s with
  | true =>
    rw [wideF_no (.inr (.inr (.inr (.inl i3))))] at hQ
    apply rp_round
    refine go ?_
    simp only [i3]
    refine go ?_
    show Q .ret _
    refine finL_ret hQ rfl rfl rfl
  | false =>
  apply rp_round
  refine go ?_
  simp only [i3]
  refine go ?_
  have ml : ((r.leave y).join x t).mark.length = n := hr.mark
  cases i4 : innB r t with
  | true =>
    rw [wideF_no (.inr (.inr (.inr (.inr i4))))] at hQ
    apply rp_round
    refine go ?_
    simp only [i4]
    refine go ?_
    show Q .ret _
    refine finL_ret hQ rfl rfl rfl
  | false =>
  apply rp_round
  refine go ?_
  simp only [i4]
  refine go ?_
  have e : wideF r u x y s t = (⟨((r.leave y).join x t).near, (((((r.leave y).join x t).mark.set u 2).set x 1).set s 1).set t 1, ((r.leave y).join x t).gone, ((r.leave y).join x t).count⟩, true) := by
    unfold wideF; rw [if_neg (by rintro (h | h | h | h | h) <;> simp_all)]
  rw [e] at hQ
  apply rp_round
  refine go ?_
  apply rp_round
  refine go ?_
  apply rp_round
  refine go ?_
  apply rp_round
  refine go ?_
  apply rp_round
  refine go ?_
  show Q .ret _
  refine finL_ret hQ rfl rfl ?_
  rfl
theorem wWide2 (n : Nat) (r : Rst) (hr : RstS n r) (hn : n ≤ 1000000) (u x y s t : Nat) (hu : u < n) (hx : x < n) (hy : y < n) (hs : s < n) (ht : t < n) (hxy : x < y) (hxt : x ≠ t) (h0 : 0 < (nthR r.near y).length) (hc : 0 ≤ r.count ∧ r.count ≤ n) : ∃ k, Try.f52.body = some k ∧ RP (regOf Try.prog EWide (103 + zeroN) u52) k (argsSt 0 [one (.c (rstO r)), cu6 ((x : Int), (y : Int), (u : Int), (s : Int), (t : Int), -1)]) (endsAsL Try.prog Try.f52 (rstO r) (lentSV (rstO (wideF r u x y s t).1) (bv (wideF r u x y s t).2))) := by
  refine ⟨_, rfl, ?_⟩
  generalize hQ : endsAsL Try.prog Try.f52 (rstO r) (lentSV (rstO (wideF r u x y s t).1) (bv (wideF r u x y s t).2)) = Q
  simp only [argsSt]
  have c1 := hr.near
  have c2 := hr.mark
  have hr' := hr.toRstOk
  have kx : HasOk r x := ⟨n, hr', hn, hx⟩
  have ky : HasOk r y := ⟨n, hr', hn, hy⟩
  have ks : HasOk r s := ⟨n, hr', hn, hs⟩
  have kt : HasOk r t := ⟨n, hr', hn, ht⟩
  have lv : LeaveOk r y := ⟨n, hr, hn, hy, h0, hc⟩
  have jo : JoinOk (r.leave y) x t := ⟨n, (hr.leave hy).toRstOk, hn, hx, ht, hxt⟩
  by_cases hst : s = t
  · subst hst
    rw [wideF_no (.inl rfl)] at hQ
    refine go ?_
    show Q .ret _
    refine finL_ret hQ rfl rfl rfl
  have hst' : ¬ (s : Int) = t := by omega
  refine go ?_
  cases i1 : innB r x with
  | true =>
    rw [wideF_no (.inr (.inl i1))] at hQ
    apply rp_round
    refine go ?_
    simp only [i1]
    refine go ?_
    show Q .ret _
    refine finL_ret hQ rfl rfl rfl
  | false =>
  apply rp_round
  refine go ?_
  simp only [i1]
  refine go ?_
  cases i2 : innB r y with
  | true =>
    rw [wideF_no (.inr (.inr (.inl i2)))] at hQ
    apply rp_round
    refine go ?_
    simp only [i2]
    refine go ?_
    show Q .ret _
    refine finL_ret hQ rfl rfl rfl
  | false =>
  apply rp_round
  refine go ?_
  simp only [i2]
  refine go ?_
  cases i3 : innB r s with
  | true =>
    rw [wideF_no (.inr (.inr (.inr (.inl i3))))] at hQ
    apply rp_round
    refine go ?_
    simp only [i3]
    refine go ?_
    show Q .ret _
    refine finL_ret hQ rfl rfl rfl
  | false =>
  apply rp_round
  refine go ?_
  simp only [i3]
  refine go ?_
  have ml : ((r.leave y).join x t).mark.length = n := hr.mark
  cases i4 : innB r t with
  | true =>
    rw [wideF_no (.inr (.inr (.inr (.inr i4))))] at hQ
    apply rp_round
    refine go ?_
    simp only [i4]
    refine go ?_
    show Q .ret _
    refine finL_ret hQ rfl rfl rfl
  | false =>
  apply rp_round
  refine go ?_
  simp only [i4]
  refine go ?_
  have e : wideF r u x y s t = (⟨((r.leave y).join x t).near, (((((r.leave y).join x t).mark.set u 2).set x 1).set s 1).set t 1, ((r.leave y).join x t).gone, ((r.leave y).join x t).count⟩, true) := by
    unfold wideF; rw [if_neg (by rintro (h | h | h | h | h) <;> simp_all)]
  rw [e] at hQ
  apply rp_round
  refine go ?_
  apply rp_round
  refine go ?_
  apply rp_round
  refine go ?_
  apply rp_round
  refine go ?_
  apply rp_round
  refine go ?_
  show Q .ret _
  refine finL_ret hQ rfl rfl ?_
  rfl
theorem EWide_ok : EnvOk Try.prog EWide := ext_ok (ext_ok (ext_ok (ext_ok (ext_ok (ext_ok env0_ok okCorners) okBeside) okIndex) okInner) okLeave) okJoin
/-- A cut, one of whose outer neighbours is -1. -/
def wideC (r : Rst) (c : Cu) : Rst × Bool :=
  if c.2.2.2.1 = -1 then wideF r c.1.toNat c.2.1.toNat c.2.2.1.toNat c.2.2.2.2.1.toNat c.2.2.2.2.2.toNat
  else if c.2.2.2.2.1 = -1 then wideF r c.2.1.toNat c.1.toNat c.2.2.1.toNat c.2.2.2.1.toNat c.2.2.2.2.2.toNat
  else wideF r c.2.2.1.toNat c.1.toNat c.2.1.toNat c.2.2.2.1.toNat c.2.2.2.2.1.toNat
def WideOk (r : Rst) (c : Cu) : Prop := ∃ n u x y s t : Nat, RstS n r ∧ n ≤ 1000000 ∧ u < n ∧ x < n ∧ y < n ∧ s < n ∧ t < n ∧ x < y ∧ x ≠ t ∧ 0 < (nthR r.near y).length ∧ (0 ≤ r.count ∧ r.count ≤ n) ∧ (c = ((u : Int), (x : Int), (y : Int), -1, (s : Int), (t : Int)) ∨ c = ((x : Int), (u : Int), (y : Int), (s : Int), -1, (t : Int)) ∨ c = ((x : Int), (y : Int), (u : Int), (s : Int), (t : Int), -1))
theorem wideC_0 (r : Rst) (u x y s t : Nat) : wideC r ((u : Int), (x : Int), (y : Int), -1, (s : Int), (t : Int)) = wideF r u x y s t := by simp [wideC]
theorem wideC_1 (r : Rst) (u x y s t : Nat) : wideC r ((x : Int), (u : Int), (y : Int), (s : Int), -1, (t : Int)) = wideF r u x y s t := by
  unfold wideC; simp only; rw [if_neg (by omega)]; simp
theorem wideC_2 (r : Rst) (u x y s t : Nat) : wideC r ((x : Int), (y : Int), (u : Int), (s : Int), (t : Int), -1) = wideF r u x y s t := by
  unfold wideC; simp only; rw [if_neg (by omega), if_neg (by omega)]; simp
noncomputable def specWide : Spec := fun us => match us with
  | [x, y] => match asRstO x, asCu y with
    | some r, some c => whenC (WideOk r c) (lentSV (rstO (wideC r c).1) (bv (wideC r c).2))
    | _, _ => none
  | _ => none
theorem okWide : SpecOk 52 specWide := by
  intro us R h
  unfold specWide at h
  split at h
  · split at h
    · next a b _ r c h1 h2 =>
      obtain ⟨⟨n, u, x, y, s, t, hr, hn, hu, hx, hy, hs, ht, hxy, hxt, h0, hc, hh⟩, rfl⟩ := whenC_eq h
      rw [asRstO_eq h1, asCu_eq h2]
      rcases hh with rfl | rfl | rfl
      · have hw := wWide0 n r hr hn u x y s t hu hx hy hs ht hxy hxt h0 hc
        rw [wideC_0]
        show GoodE Try.prog 52 (one (.c (rstO r)) :: _) _
        unfold GoodE
        exact goodBy2L EWide_ok Try.func52 rfl (Nat.le_of_ble_eq_true rfl) (by decide) hw
      · have hw := wWide1 n r hr hn u x y s t hu hx hy hs ht hxy hxt h0 hc
        rw [wideC_1]
        show GoodE Try.prog 52 (one (.c (rstO r)) :: _) _
        unfold GoodE
        exact goodBy2L EWide_ok Try.func52 rfl (Nat.le_of_ble_eq_true rfl) (by decide) hw
      · have hw := wWide2 n r hr hn u x y s t hu hx hy hs ht hxy hxt h0 hc
        rw [wideC_2]
        show GoodE Try.prog 52 (one (.c (rstO r)) :: _) _
        unfold GoodE
        exact goodBy2L EWide_ok Try.func52 rfl (Nat.le_of_ble_eq_true rfl) (by decide) hw
    · cases h
  · cases h
@[simp] theorem sWideR {r : Rst} {a b c p q s : Int} (h : WideOk r (a, b, c, p, q, s)) : specWide [⟨.one, [.c (rstO r)]⟩, cu6 (a, b, c, p, q, s)] = some (lentSV (rstO (wideC r (a, b, c, p, q, s)).1) (bv (wideC r (a, b, c, p, q, s)).2)) := by
  unfold specWide
  simp only [asRstO_rst, asCu_cu]
  exact whenC_pos _ h
@[simp] theorem sWideF {l : List (Cell Unit)} {y : SV Unit} : specWide [⟨.one, [.c (.bx false () l)]⟩, y] = none := by
  unfold specWide
  simp only [asRstO_fro]
@[simp] theorem callWide {E : Env} {σ : St Unit} {t : Nat} {l : List Operand} : effCall Try.prog E ΩU σ t 52 l = callO E 52 t (argsOf Try.prog ΩU σ [63, 59] l) := eff_call Try.func52 Try.params52
@[simp] theorem lendWide {E : Env} {σ : St Unit} {t s : Nat} {l : List Operand} : effLend Try.prog E ΩU σ t 52 (.tmp s :: l) = lendO E σ t s 52 [59] l := eff_lend Try.func52 Try.params52
end Go.Proofs.Ytnmocjhpbobahaa.L
namespace Go.Proofs.Ytnmocjhpbobahaa.L
open Go Go.RowKit
set_option maxRecDepth 100000
set_option maxHeartbeats 4000000
noncomputable abbrev ECut : Env := ext (ext env0 51 specHas) 63 specContains
abbrev cutS (r : Rst) (a b c : Nat) (x y z t i : Int) : St Unit := [(0, rf r), (3, a3x a b c), (4, ⟨.one, [.c (.bx true () [.sc (.int .i64 0), .sc (.int .i64 0), .sc (.int .i64 0), .sc (.int .i64 0), .sc (.int .i64 0), .sc (.int .i64 0)])]⟩), (6, a3x x y z), (7, iv t), (46, a3 a b c), (47, iv i)]
abbrev inS (r : Rst) (a b c : Nat) (x y z t j : Int) (row : List Int) (i : Int) : St Unit := [(0, rf r), (3, a3x a b c), (4, ⟨.one, [.c (.bx true () [.sc (.int .i64 0), .sc (.int .i64 0), .sc (.int .i64 0), .sc (.int .i64 0), .sc (.int .i64 0), .sc (.int .i64 0)])]⟩), (6, a3x x y z), (7, iv t), (8, iv j), (46, a3 a b c), (47, iv j), (68, ints row), (69, iv row.length), (70, iv i)]
theorem isT_le (r : Rst) (v : Nat) : 0 ≤ isT r v ∧ isT r v ≤ 1 := by unfold isT; split <;> omega
theorem outN_t {a b c : Int} {row : List Int} {i : Nat} (h : in3 a b c (nth row i) = true) : outN a b c row (i + 1) = outN a b c row i := by rw [outN, if_pos h]
theorem outN_f {a b c : Int} {row : List Int} {i : Nat} (h : in3 a b c (nth row i) = false) : outN a b c row (i + 1) = nth row i := by rw [outN, if_neg (by rw [h]; exact Bool.noConfusion)]
theorem wCut (n : Nat) (r : Rst) (hr : RstOk n r) (hn : n ≤ 1000000) (a b c : Nat) (ha : a < n) (hb : b < n) (hc : c < n) : ∃ k, Try.f46.body = some k ∧ RP (regOf Try.prog ECut 98 u46) k (argsSt 0 [rf r, a3 a b c]) (endsAs Try.prog Try.f46 (cutB (cutF r a b c).1 (cutF r a b c).2)) := by
  refine ⟨_, rfl, ?_⟩
  generalize hQ : endsAs Try.prog Try.f46 (cutB (cutF r a b c).1 (cutF r a b c).2) = Q
  simp only [argsSt]
  have c1 := hr.near
  have a1 : a < r.near.length := by omega
  have b1 : b < r.near.length := by omega
  have d1 : c < r.near.length := by omega
  have ka : HasOk r a := ⟨n, hr, hn, ha⟩
  have kb : HasOk r b := ⟨n, hr, hn, hb⟩
  by_cases h1 : r.count ≤ 4
  · rw [show cutF r a b c = ((0, 0, 0, 0, 0, 0), false) by unfold cutF; rw [if_pos (.inl h1)]] at hQ
    refine go ?_
    show Q .ret _; refine fin_ret hQ rfl ?_
    rfl
  by_cases h2 : (b : Int) ∈ nthR r.near a
  rotate_left
  · rw [show cutF r a b c = ((0, 0, 0, 0, 0, 0), false) by unfold cutF; rw [if_pos (.inr (.inl h2))]] at hQ
    refine go ?_
    show Q .ret _; refine fin_ret hQ rfl ?_
    rfl
  by_cases h3 : (c : Int) ∈ nthR r.near a
  rotate_left
  · rw [show cutF r a b c = ((0, 0, 0, 0, 0, 0), false) by unfold cutF; rw [if_pos (.inr (.inr (.inl h3)))]] at hQ
    refine go ?_
    show Q .ret _; refine fin_ret hQ rfl ?_
    rfl
  by_cases h4 : (c : Int) ∈ nthR r.near b
  rotate_left
  · rw [show cutF r a b c = ((0, 0, 0, 0, 0, 0), false) by unfold cutF; rw [if_pos (.inr (.inr (.inr h4)))]] at hQ
    refine go ?_
    show Q .ret _; refine fin_ret hQ rfl ?_
    rfl
  refine go ?_
  have hl : ∀ v, (nthR r.near v).length = 3 → (nthR r.near v).length ≤ 17592186043904 := fun v h => by omega
  apply rp_loop (fun k σ => (k = 3 ∧ σ = cutS r a b c (-1) (-1) (-1) 0 0) ∨ (k = 2 ∧ σ = cutS r a b c (outV r a b c a) (-1) (-1) (isT r a) 1) ∨ (k = 1 ∧ σ = cutS r a b c (outV r a b c a) (outV r a b c b) (-1) (isT r a + isT r b) 2) ∨ (k = 0 ∧ σ = cutS r a b c (outV r a b c a) (outV r a b c b) (outV r a b c c) (isT r a + isT r b + isT r c) 3)) 3
  · exact .inl ⟨rfl, rfl⟩
  rintro k σ (⟨rfl, rfl⟩ | ⟨rfl, rfl⟩ | ⟨rfl, rfl⟩ | ⟨rfl, rfl⟩)
  · by_cases h : (nthR r.near a).length = 3
    · rw [show outV r a b c a = outN a b c (nthR r.near a) 3 by unfold outV; rw [if_pos h], show isT r a = 1 by unfold isT; rw [if_pos h]]
      have q1 := isT_le r a
      have q2 := isT_le r b
      have q3 : (nthR r.near a).length ≤ 17592186043904 := by omega
      refine go ?_
      apply rp_loop (fun k σ => ∃ i : Nat, i ≤ 3 ∧ k = 3 - i ∧ σ = inS r a b c (outN a b c (nthR r.near a) i) (-1) (-1) (1) 0 (nthR r.near a) i) 3
      · exact ⟨0, by omega, by omega, rfl⟩
      rintro k σ ⟨i, hi, rfl, rfl⟩
      by_cases hi3 : i < 3
      · cases hm : in3 a b c (nth (nthR r.near a) i) with
        | true =>
          refine go ?_
          simp only [hm]
          refine go ?_
          exact nxt (3 - (i + 1)) (by omega) ⟨i + 1, by omega, rfl, by rw [outN_t hm]; rfl⟩
        | false =>
          refine go ?_
          simp only [hm]
          refine go ?_
          exact nxt (3 - (i + 1)) (by omega) ⟨i + 1, by omega, rfl, by rw [outN_f hm]; rfl⟩
      obtain rfl : i = 3 := by omega
      refine go ?_
      exact nxt 2 (by omega) (.inr (.inl ⟨rfl, rfl⟩))
    · rw [show outV r a b c a = -1 by unfold outV; rw [if_neg h], show isT r a = 0 by unfold isT; rw [if_neg h]]
      refine go ?_
      exact nxt 2 (by omega) (.inr (.inl ⟨rfl, rfl⟩))
  · by_cases h : (nthR r.near b).length = 3
    · rw [show outV r a b c b = outN a b c (nthR r.near b) 3 by unfold outV; rw [if_pos h], show isT r b = 1 by unfold isT; rw [if_pos h]]
      have q1 := isT_le r a
      have q2 := isT_le r b
      have q3 : (nthR r.near b).length ≤ 17592186043904 := by omega
      refine go ?_
      apply rp_loop (fun k σ => ∃ i : Nat, i ≤ 3 ∧ k = 3 - i ∧ σ = inS r a b c (outV r a b c a) (outN a b c (nthR r.near b) i) (-1) (isT r a + 1) 1 (nthR r.near b) i) 3
      · exact ⟨0, by omega, by omega, rfl⟩
      rintro k σ ⟨i, hi, rfl, rfl⟩
      by_cases hi3 : i < 3
      · cases hm : in3 a b c (nth (nthR r.near b) i) with
        | true =>
          refine go ?_
          simp only [hm]
          refine go ?_
          exact nxt (3 - (i + 1)) (by omega) ⟨i + 1, by omega, rfl, by rw [outN_t hm]; rfl⟩
        | false =>
          refine go ?_
          simp only [hm]
          refine go ?_
          exact nxt (3 - (i + 1)) (by omega) ⟨i + 1, by omega, rfl, by rw [outN_f hm]; rfl⟩
      obtain rfl : i = 3 := by omega
      refine go ?_
      exact nxt 1 (by omega) (.inr (.inr (.inl ⟨rfl, rfl⟩)))
    · rw [show outV r a b c b = -1 by unfold outV; rw [if_neg h], show isT r b = 0 by unfold isT; rw [if_neg h], Int.add_zero]
      refine go ?_
      exact nxt 1 (by omega) (.inr (.inr (.inl ⟨rfl, rfl⟩)))
  · by_cases h : (nthR r.near c).length = 3
    · rw [show outV r a b c c = outN a b c (nthR r.near c) 3 by unfold outV; rw [if_pos h], show isT r c = 1 by unfold isT; rw [if_pos h]]
      have q1 := isT_le r a
      have q2 := isT_le r b
      have q3 : (nthR r.near c).length ≤ 17592186043904 := by omega
      refine go ?_
      apply rp_loop (fun k σ => ∃ i : Nat, i ≤ 3 ∧ k = 3 - i ∧ σ = inS r a b c (outV r a b c a) (outV r a b c b) (outN a b c (nthR r.near c) i) (isT r a + isT r b + 1) 2 (nthR r.near c) i) 3
      · exact ⟨0, by omega, by omega, rfl⟩
      rintro k σ ⟨i, hi, rfl, rfl⟩
      by_cases hi3 : i < 3
      · cases hm : in3 a b c (nth (nthR r.near c) i) with
        | true =>
          refine go ?_
          simp only [hm]
          refine go ?_
          exact nxt (3 - (i + 1)) (by omega) ⟨i + 1, by omega, rfl, by rw [outN_t hm]; rfl⟩
        | false =>
          refine go ?_
          simp only [hm]
          refine go ?_
          exact nxt (3 - (i + 1)) (by omega) ⟨i + 1, by omega, rfl, by rw [outN_f hm]; rfl⟩
      obtain rfl : i = 3 := by omega
      refine go ?_
      exact nxt 0 (by omega) (.inr (.inr (.inr ⟨rfl, rfl⟩)))
    · rw [show outV r a b c c = -1 by unfold outV; rw [if_neg h], show isT r c = 0 by unfold isT; rw [if_neg h], Int.add_zero]
      refine go ?_
      exact nxt 0 (by omega) (.inr (.inr (.inr ⟨rfl, rfl⟩)))
  · have q1 := isT_le r a
    have q2 := isT_le r b
    have q3 := isT_le r c
    rw [show cutF r a b c = ((((a : Int), (b : Int), (c : Int), outV r a b c a, outV r a b c b, outV r a b c c) : Cu), decide (2 ≤ isT r a + isT r b + isT r c)) by unfold cutF; rw [if_neg (by rintro (h | h | h | h); exact h1 h; exact h h2; exact h h3; exact h h4)]] at hQ
    refine go ?_
    show Q .ret _; refine fin_ret hQ rfl ?_
    rfl
theorem ECut_ok : EnvOk Try.prog ECut := ext_ok (ext_ok env0_ok okHas) okContains
def TriOk (r : Rst) (a b c : Nat) : Prop := ∃ n : Nat, RstOk n r ∧ n ≤ 1000000 ∧ a < n ∧ b < n ∧ c < n
noncomputable def specCut : Spec := fun us => match us with
  | [x, y] => match asRst x, asA3 y with
    | some r, some l => whenC (0 ≤ l.1 ∧ 0 ≤ l.2.1 ∧ 0 ≤ l.2.2 ∧ TriOk r l.1.toNat l.2.1.toNat l.2.2.toNat) (cutB (cutF r l.1.toNat l.2.1.toNat l.2.2.toNat).1 (cutF r l.1.toNat l.2.1.toNat l.2.2.toNat).2)
    | _, _ => none
  | _ => none
theorem okCut : SpecOk 46 specCut := by
  intro us R h
  unfold specCut at h
  split at h
  · split at h
    · next x y _ r l h1 h2 =>
      obtain ⟨⟨ha, hb, hc, n, hr, hn, han, hbn, hcn⟩, rfl⟩ := whenC_eq h
      rw [asRst_eq h1, asA3_eq h2]
      have hw := wCut n r hr hn l.1.toNat l.2.1.toNat l.2.2.toNat han hbn hcn
      rw [show (l.1.toNat : Int) = l.1 by omega, show (l.2.1.toNat : Int) = l.2.1 by omega, show (l.2.2.toNat : Int) = l.2.2 by omega] at hw
      exact goodBy2 ECut_ok Try.func46 rfl (Nat.le_of_ble_eq_true rfl) (by decide) hw
    · cases h
  · cases h
@[simp] theorem sCutR {r : Rst} {a b c : Nat} (h : TriOk r a b c) : specCut [⟨.one, [.c (rstF r)]⟩, a3 a b c] = some (cutB (cutF r a b c).1 (cutF r a b c).2) := by
  unfold specCut
  simp only [asRst_rst, asA3_a3]
  exact whenC_pos _ ⟨by omega, by omega, by omega, h⟩
@[simp] theorem callCut {E : Env} {σ : St Unit} {t : Nat} {l : List Operand} : effCall Try.prog E ΩU σ t 46 l = callO E 46 t (argsOf Try.prog ΩU σ [63, 82] l) := eff_call Try.func46 Try.params46
end Go.Proofs.Ytnmocjhpbobahaa.L
