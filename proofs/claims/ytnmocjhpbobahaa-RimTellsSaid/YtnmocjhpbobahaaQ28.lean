/- U60: Rest.wide of the document's table. UW: a wide cut keeps the code's rows and the document's table in agreement. RE: rest.do as a call. -/
import Derived.Test.YtnmocjhpbobahaaQ27
import Derived.Test.YtnmocjhpbobahaaQ26
set_option linter.unusedVariables false
set_option linter.unusedSimpArgs false
set_option linter.unnecessarySimpa false
namespace Go.Proofs.Ytnmocjhpbobahaa.L
open Go Go.RowKit
set_option maxRecDepth 100000
set_option maxHeartbeats 4000000
theorem innT_t {t : Tbl} {v : Nat} (h : innT t v = true) : innT t v = true := h
theorem innT_f {t : Tbl} {v : Nat} (h : innT t v = false) : innT t v = false := h
attribute [local simp] lendO innT_t innT_f
def Tbl.off (t : Tbl) (y : Nat) : Tbl := ⟨t.inn.set y false, t.adj, t.mark⟩
def wideT (t : Tbl) (u x y s w : Nat) : Tbl × Bool :=
  if s = w ∨ innT t x = true ∨ innT t y = true ∨ innT t s = true ∨ innT t w = true then (t, false)
  else (⟨((t.off y).join x w).inn, ((t.off y).join x w).adj, (((((t.off y).join x w).mark.set u 2).set x 1).set s 1).set w 1⟩, true)
theorem wideT_no {t : Tbl} {u x y s w : Nat} (h : s = w ∨ innT t x = true ∨ innT t y = true ∨ innT t s = true ∨ innT t w = true) : wideT t u x y s w = (t, false) := by unfold wideT; rw [if_pos h]
theorem TbOk.off {n : Nat} {t : Tbl} (h : TbOk n t) (y : Nat) : TbOk n (t.off y) := ⟨by unfold Tbl.off; simp only [List.length_set]; exact h.inn, h.adj, h.row, h.mark⟩
noncomputable abbrev EWideT : Env := ext (ext env0 77 specInT) 78 specJoinT
theorem wWideT (n : Nat) (t : Tbl) (ht : TbOk n t) (hn : n ≤ 1000000) (u x y s w : Nat) (hu : u < n) (hx : x < n) (hy : y < n) (hs : s < n) (hw : w < n) (hxw : x ≠ w) : ∃ c, Try.f60.body = some c ∧ RP (regOf Try.prog EWideT (70 + zeroN) u60) c (argsSt 0 [one (.c (tbO t)), iv u, iv x, iv y, iv s, iv w]) (endsAsL Try.prog Try.f60 (tbO t) (lentSV (tbO (wideT t u x y s w).1) (bv (wideT t u x y s w).2))) := by
  refine ⟨_, rfl, ?_⟩
  generalize hQ : endsAsL Try.prog Try.f60 (tbO t) (lentSV (tbO (wideT t u x y s w).1) (bv (wideT t u x y s w).2)) = Q
  simp only [argsSt]
  have c1 := ht.inn
  have c2 := ht.mark
  have y1 : y < t.inn.length := by omega
  have kx : TbHas t x := ⟨n, ht, hn, hx⟩
  have ky : TbHas t y := ⟨n, ht, hn, hy⟩
  have ks : TbHas t s := ⟨n, ht, hn, hs⟩
  have kw : TbHas t w := ⟨n, ht, hn, hw⟩
  by_cases h0 : s = w
  · subst h0
    rw [wideT_no (.inl rfl)] at hQ
    refine go ?_
    show Q .ret _
    refine finL_ret hQ rfl rfl rfl
  have h0' : ¬ (s : Int) = w := by omega
  cases i1 : innT t x with
  | true =>
    rw [wideT_no (.inr (.inl i1))] at hQ
    refine go ?_
    show Q .ret _
    refine finL_ret hQ rfl rfl rfl
  | false =>
  cases i2 : innT t y with
  | true =>
    rw [wideT_no (.inr (.inr (.inl i2)))] at hQ
    refine go ?_
    show Q .ret _
    refine finL_ret hQ rfl rfl rfl
  | false =>
  cases i3 : innT t s with
  | true =>
    rw [wideT_no (.inr (.inr (.inr (.inl i3))))] at hQ
    refine go ?_
    show Q .ret _
    refine finL_ret hQ rfl rfl rfl
  | false =>
  cases i4 : innT t w with
  | true =>
    rw [wideT_no (.inr (.inr (.inr (.inr i4))))] at hQ
    refine go ?_
    show Q .ret _
    refine finL_ret hQ rfl rfl rfl
  | false =>
  have e : wideT t u x y s w = (⟨((t.off y).join x w).inn, ((t.off y).join x w).adj, (((((t.off y).join x w).mark.set u 2).set x 1).set s 1).set w 1⟩, true) := by
    unfold wideT; rw [if_neg (by rintro (h | h | h | h | h) <;> simp_all)]
  rw [e] at hQ
  have jo : JoinT (t.off y) x w := ⟨n, ht.off y, hn, hx, hw, hxw⟩
  have ml : ((t.off y).join x w).mark.length = n := c2
  refine go ?_
  rw [show (Cell.bx true () [Cell.sl true 1 () (BL (t.inn.set y false)), Cell.sl true 1 () (OT t.adj), Cell.sl true 1 () (IL t.mark)] : Cell Unit) = tbO (t.off y) from rfl]
  refine go ?_
  show Q .ret _
  refine finL_ret hQ rfl rfl rfl
def WideT (t : Tbl) (u x y s w : Nat) : Prop := ∃ n : Nat, TbOk n t ∧ n ≤ 1000000 ∧ u < n ∧ x < n ∧ y < n ∧ s < n ∧ w < n ∧ x ≠ w
theorem EWideT_ok : EnvOk Try.prog EWideT := ext_ok (ext_ok env0_ok okInT) okJoinT
noncomputable def specWideT : Spec := fun us => match us with
  | [x0, x1, x2, x3, x4, x5] => match asTbO x0, asInt x1, asInt x2, asInt x3, asInt x4, asInt x5 with
    | some t, some u, some x, some y, some s, some w => whenC ((0 ≤ u ∧ 0 ≤ x ∧ 0 ≤ y ∧ 0 ≤ s ∧ 0 ≤ w) ∧ WideT t u.toNat x.toNat y.toNat s.toNat w.toNat) (lentSV (tbO (wideT t u.toNat x.toNat y.toNat s.toNat w.toNat).1) (bv (wideT t u.toNat x.toNat y.toNat s.toNat w.toNat).2))
    | _, _, _, _, _, _ => none
  | _ => none
theorem okWideT : SpecOk 60 specWideT := by
  intro us R h
  unfold specWideT at h
  split at h
  · split at h
    · next t u x y s w h0 h1 h2 h3 h4 h5 =>
      obtain ⟨⟨⟨g1, g2, g3, g4, g5⟩, n, ht, hn, k1, k2, k3, k4, k5, k6⟩, rfl⟩ := whenC_eq h
      rw [asTbO_eq h0, asInt_eq h1, asInt_eq h2, asInt_eq h3, asInt_eq h4, asInt_eq h5]
      have hw := wWideT n t ht hn _ _ _ _ _ k1 k2 k3 k4 k5 k6
      rw [show (u.toNat : Int) = u by omega, show (x.toNat : Int) = x by omega, show (y.toNat : Int) = y by omega, show (s.toNat : Int) = s by omega, show (w.toNat : Int) = w by omega] at hw
      show GoodE Try.prog 60 [one (.c (tbO t)), iv u, iv x, iv y, iv s, iv w] _
      unfold GoodE
      exact goodBy2L EWideT_ok Try.func60 rfl (Nat.le_of_ble_eq_true rfl) (by decide) hw
    · cases h
  · cases h
@[simp] theorem sWideT {t : Tbl} {u x y s w : Nat} (h : WideT t u x y s w) : specWideT [⟨.one, [.c (tbO t)]⟩, iv u, iv x, iv y, iv s, iv w] = some (lentSV (tbO (wideT t u x y s w).1) (bv (wideT t u x y s w).2)) := by
  unfold specWideT
  simp only [asTbO_tb, asInt_iv]
  exact whenC_pos _ ⟨by omega, h⟩
@[simp] theorem sWideTF {l : List (Cell Unit)} {a b c d e : SV Unit} : specWideT [⟨.one, [.c (.bx false () l)]⟩, a, b, c, d, e] = none := by
  unfold specWideT
  simp only [asTbO_fro]
@[simp] theorem callWideT {E : Env} {σ : St Unit} {t : Nat} {l : List Operand} : effCall Try.prog E ΩU σ t 60 l = callO E 60 t (argsOf Try.prog ΩU σ [70, 3, 3, 3, 3, 3] l) := eff_call Try.func60 Try.params60
@[simp] theorem lendWideT {E : Env} {σ : St Unit} {t s : Nat} {l : List Operand} : effLend Try.prog E ΩU σ t 60 (.tmp s :: l) = lendO E σ t s 60 [3, 3, 3, 3, 3] l := eff_lend Try.func60 Try.params60
end Go.Proofs.Ytnmocjhpbobahaa.L
namespace Go.Proofs.Ytnmocjhpbobahaa.L
open Go Go.RowKit
set_option maxRecDepth 100000
theorem Agr.wide {n : Nat} {r : Rst} {t : Tbl} (h : Agr n r t) {u x y s w : Nat} (k : WideI n r u x y s w) : (wideT t u x y s w).2 = (wideF r u x y s w).2 ∧ Agr n (wideF r u x y s w).1 (wideT t u x y s w).1 := by
  obtain ⟨gx, gy, gw, gs⟩ := k.gone h.rst
  have st := (k.step h.rst).1
  have hxy : x ≠ y := by have := k.xy; omega
  have hxw : x ≠ w := fun e => k.tx e.symm
  unfold wideT wideF at *
  rw [h.inner k.xn gx, h.inner k.yn gy, h.inner k.sn gs, h.inner k.tn gw]
  by_cases hc : s = w ∨ innB r x = true ∨ innB r y = true ∨ innB r s = true ∨ innB r w = true
  · rw [if_pos hc, if_pos hc]; exact ⟨rfl, h⟩
  · rw [if_neg hc] at st ⊢
    rw [if_neg hc]
    refine ⟨rfl, ⟨st, ?_, ?_, fun v hv => ?_, fun v hv hg x' hx' => ?_⟩⟩
    · have hj := (h.tb.off y).join k.xn k.tn
      exact ⟨hj.inn, hj.adj, hj.row, by simp only [List.length_set]; exact hj.mark⟩
    · show ((((t.mark.set u 2).set x 1).set s 1).set w 1) = ((((r.mark.set u 2).set x 1).set s 1).set w 1)
      rw [h.mark]
    · show nthB (t.inn.set y false) v = !(nthB (r.gone.set y true) v)
      rw [nthB_set (by rw [h.tb.inn]; exact k.yn), nthB_set (by rw [h.rst.toRstOk.gone]; exact k.yn), h.inn v hv]
      split <;> rfl
    · have hg : nthB (r.gone.set y true) v = false := hg
      rw [nthB_set (by rw [h.rst.toRstOk.gone]; exact k.yn)] at hg
      by_cases e : y = v
      · rw [if_pos e] at hg; cases hg
      · rw [if_neg e] at hg
        have hvy : v ≠ y := fun q => e q.symm
        show (x' : Int) ∈ nthR ((r.leave y).join x w).near v ↔ nthB (t.inn.set y false) x' = true ∧ nthB (nthT ((t.off y).join x w).adj v) x' = true
        rw [join_mem (h.rst.toRstS.leave k.yn).toRstOk k.xn k.tn hxw, leave_mem h.rst.toRstS k.yn hv, nthB_set (by rw [h.tb.inn]; exact k.yn), join_at (h.tb.off y) k.xn k.tn hxw v x' hv hx', h.adj v hv hg x' hx']
        have ix : nthB t.inn x = true := by rw [h.inn x k.xn, gx]; rfl
        have iw : nthB t.inn w = true := by rw [h.inn w k.tn, gw]; rfl
        have hoff : (t.off y).adj = t.adj := rfl
        rw [hoff]
        by_cases q1 : v = x ∧ x' = w
        · obtain ⟨rfl, rfl⟩ := q1
          rw [if_neg (fun e => k.ty e.symm), if_pos (.inl ⟨rfl, rfl⟩)]
          exact ⟨fun _ => ⟨iw, rfl⟩, fun _ => .inr (.inr ⟨rfl, rfl⟩)⟩
        · by_cases q2 : v = w ∧ x' = x
          · obtain ⟨rfl, rfl⟩ := q2
            rw [if_neg (fun e => hxy e.symm), if_pos (.inr ⟨rfl, rfl⟩)]
            exact ⟨fun _ => ⟨ix, rfl⟩, fun _ => .inr (.inl ⟨rfl, rfl⟩)⟩
          · have hn12 : ¬ ((v = x ∧ x' = w) ∨ (v = w ∧ x' = x)) := fun e => e.elim q1 q2
            rw [if_neg hn12]
            by_cases q3 : y = x'
            · rw [if_pos q3]
              constructor
              · rintro (⟨_, _, e'⟩ | ⟨e1, e2⟩ | ⟨e1, e2⟩)
                · exact absurd (by omega) e'
                · exact absurd ⟨e1, by omega⟩ q2
                · exact absurd ⟨e1, by omega⟩ q1
              · rintro ⟨e', _⟩; cases e'
            · rw [if_neg q3]
              constructor
              · rintro (⟨e', _, _⟩ | ⟨e1, e2⟩ | ⟨e1, e2⟩)
                · exact e'
                · exact absurd ⟨e1, by omega⟩ q2
                · exact absurd ⟨e1, by omega⟩ q1
              · intro e'
                exact .inl ⟨e', hvy, by omega⟩
end Go.Proofs.Ytnmocjhpbobahaa.L
namespace Go.Proofs.Ytnmocjhpbobahaa.L
open Go Go.RowKit
set_option maxRecDepth 100000
theorem isT_eq {r : Rst} {v : Nat} (h : (nthR r.near v).length = 3) : isT r v = 1 := by unfold isT; rw [if_pos h]
theorem isT_ne {r : Rst} {v : Nat} (h : (nthR r.near v).length ≠ 3) : isT r v = 0 := by unfold isT; rw [if_neg h]
theorem or213 {a b c : Prop} (h : a ∨ b ∨ c) : b ∨ a ∨ c := by
  rcases h with h | h | h
  · exact .inr (.inl h)
  · exact .inl h
  · exact .inr (.inr h)
theorem cut_kinds {n : Nat} {r : Rst} {a b c : Nat} {p q s : Int} (h : RstI n r) (k : CutI n r a b c p q s) :
    (∃ p' q' s' : Nat, p = p' ∧ q = q' ∧ s = s' ∧ SmallI n r a b c p' q' s') ∨ (∃ q' s' : Nat, p = -1 ∧ q = q' ∧ s = s' ∧ WideI n r a b c q' s') ∨ (∃ p' s' : Nat, q = -1 ∧ p = p' ∧ s = s' ∧ WideI n r b a c p' s') ∨ (∃ p' q' : Nat, s = -1 ∧ p = p' ∧ q = q' ∧ WideI n r c a b p' q') := by
  have h1 := k.ab; have h2 := k.bc; have h3 := k.cn
  have an : a < n := by omega
  have bn : b < n := by omega
  have eba := h.sym a b an bn k.eab
  have eca := h.sym a c an k.cn k.eac
  have ecb := h.sym b c bn k.cn k.ebc
  have tw := k.two
  rcases k.ka with ⟨la, p', rfl, pn, pm, p1, p2, p3, pa⟩ | ⟨la, rfl⟩
  · rcases k.kb with ⟨lb, q', rfl, qn, qm, q1, q2, q3, qa⟩ | ⟨lb, rfl⟩
    · rcases k.kc with ⟨lc, s', rfl, sn, sm, s1, s2, s3, sa⟩ | ⟨lc, rfl⟩
      · exact .inl ⟨p', q', s', rfl, rfl, rfl, ⟨h1, h2, h3, pn, qn, sn, k.cnt, la, lb, lc, k.eab, k.eac, k.ebc, pm, qm, sm, ⟨p1, p2, p3⟩, ⟨q1, q2, q3⟩, ⟨s1, s2, s3⟩, pa, qa, sa⟩⟩
      · exact .inr (.inr (.inr ⟨p', q', rfl, rfl, rfl, ⟨h3, an, bn, pn, qn, h1, by omega, by omega, lc, la, lb, k.cnt, k.eac, k.ebc, eba, pm, qm, p3, p1, p2, q3, q2, q1, fun z hz => or213 (pa z hz), fun z hz => or213 (qa z hz)⟩⟩))
    · rcases k.kc with ⟨lc, s', rfl, sn, sm, s1, s2, s3, sa⟩ | ⟨lc, rfl⟩
      · exact .inr (.inr (.inl ⟨p', s', rfl, rfl, rfl, ⟨bn, an, h3, pn, sn, by omega, by omega, by omega, lb, la, lc, k.cnt, k.eab, ecb, eca, pm, sm, p2, p1, p3, s3, s2, s1, pa, fun z hz => or213 (sa z hz)⟩⟩))
      · rw [isT_eq la, isT_ne lb, isT_ne lc] at tw; omega
  · rcases k.kb with ⟨lb, q', rfl, qn, qm, q1, q2, q3, qa⟩ | ⟨lb, rfl⟩
    · rcases k.kc with ⟨lc, s', rfl, sn, sm, s1, s2, s3, sa⟩ | ⟨lc, rfl⟩
      · exact .inr (.inl ⟨q', s', rfl, rfl, rfl, ⟨an, bn, h3, qn, sn, h2, by omega, by omega, la, lb, lc, k.cnt, eba, eca, ecb, qm, sm, q2, q1, q3, s2, s3, s1, qa, sa⟩⟩)
      · rw [isT_ne la, isT_eq lb, isT_ne lc] at tw; omega
    · have := isT_le r c
      rw [isT_ne la, isT_ne lb] at tw; omega
def doF (r : Rst) (e : Cu) : Rst × Bool :=
  if minL [e.2.2.2.1, e.2.2.2.2.1, e.2.2.2.2.2] < 0 then wideC r e else smallF r e.1.toNat e.2.1.toNat e.2.2.1.toNat e.2.2.2.1.toNat e.2.2.2.2.1.toNat e.2.2.2.2.2.toNat
theorem minL3 (p q s : Int) : minL [p, q, s] = min (min p q) s := rfl
theorem doF_small (r : Rst) (a b c p q s : Nat) : doF r ((a : Int), (b : Int), (c : Int), (p : Int), (q : Int), (s : Int)) = smallF r a b c p q s := by
  have hm : ¬ minL [(p : Int), (q : Int), (s : Int)] < 0 := by rw [minL3]; omega
  unfold doF
  rw [if_neg hm]
  rfl
theorem doF_wide (r : Rst) {e : Cu} (h : minL [e.2.2.2.1, e.2.2.2.2.1, e.2.2.2.2.2] < 0) : doF r e = wideC r e := by unfold doF; rw [if_pos h]
theorem doF_wide' (r : Rst) (a b c p q s : Int) (h : min (min p q) s < 0) : doF r (a, b, c, p, q, s) = wideC r (a, b, c, p, q, s) := doF_wide r h
def DoOk (r : Rst) (e : Cu) : Prop := ∃ (n a b c : Nat) (p q s : Int), RstI n r ∧ n ≤ 1000000 ∧ e = ((a : Int), (b : Int), (c : Int), p, q, s) ∧ CutI n r a b c p q s
theorem EDo_ok : EnvOk Try.prog EDo := ext_ok (ext_ok (ext_ok (ext_ok (ext_ok env0_ok okMin) okWide) okWants) okLeave) okJoin
noncomputable def specDo : Spec := fun us => match us with
  | [x, y] => match asRstO x, asCu y with
    | some r, some e => whenC (DoOk r e) (lentSV (rstO (doF r e).1) (bv (doF r e).2))
    | _, _ => none
  | _ => none
theorem goodDoWide {r : Rst} {e : Cu} (hw : WideOk r e) (hm : minL [e.2.2.2.1, e.2.2.2.2.1, e.2.2.2.2.2] < 0) : GoodE Try.prog 30 [one (.c (rstO r)), cu6 e] (lentSV (rstO (doF r e).1) (bv (doF r e).2)) := by
  rw [doF_wide r hm]
  obtain ⟨a, b, c, p, q, s⟩ := e
  have := wDoWide r a b c p q s hw hm
  unfold GoodE
  exact goodByRL EDo_ok Try.func30 rfl (Nat.le_of_ble_eq_true rfl) (by decide) this
theorem okDo : SpecOk 30 specDo := by
  intro us R h
  unfold specDo at h
  split at h
  · split at h
    · next x y _ r e h1 h2 =>
      obtain ⟨⟨n, a, b, c, p, q, s, hr, hn, rfl, k⟩, rfl⟩ := whenC_eq h
      rw [asRstO_eq h1, asCu_eq h2]
      rcases cut_kinds hr k with ⟨p', q', s', rfl, rfl, rfl, w⟩ | ⟨q', s', rfl, rfl, rfl, w⟩ | ⟨p', s', rfl, rfl, rfl, w⟩ | ⟨p', q', rfl, rfl, rfl, w⟩
      · have hb := w.ab; have hb2 := w.bc; have hb3 := w.cn
        have hmem := w.cb hr
        have hdb := w.db
        unfold deg at hdb
        have := wDoSmall n r hr.toRstS hn a b c p' q' s' (by omega) (by omega) hb3 w.pn w.qn w.sn hr.mks (by have := hr.cnt_le; have := w.cnt; omega) (by omega) (List.length_pos_of_mem hmem) (fun e => w.qa.2.1 e.symm) (fun e => w.sa.2.1 e.symm) (w.noq hr)
        rw [doF_small]
        show GoodE Try.prog 30 (one (.c (rstO r)) :: _) _
        unfold GoodE
        exact goodByRL EDo_ok Try.func30 rfl (Nat.le_of_ble_eq_true rfl) (by decide) this
      · exact goodDoWide (w.ok hr hn (.inl rfl)) (show min (min (-1 : Int) (q' : Int)) (s' : Int) < 0 by omega)
      · exact goodDoWide (w.ok hr hn (.inr (.inl rfl))) (show min (min (p' : Int) (-1 : Int)) (s' : Int) < 0 by omega)
      · exact goodDoWide (w.ok hr hn (.inr (.inr rfl))) (show min (min (p' : Int) (q' : Int)) (-1 : Int) < 0 by omega)
    · cases h
  · cases h
@[simp] theorem sDoX {r : Rst} {a b c p q s : Int} (h : DoOk r (a, b, c, p, q, s)) : specDo [⟨.one, [.c (rstO r)]⟩, ⟨.agg, [.c (.sc (.int .i64 a)), .c (.sc (.int .i64 b)), .c (.sc (.int .i64 c)), .c (.sc (.int .i64 p)), .c (.sc (.int .i64 q)), .c (.sc (.int .i64 s))]⟩] = some (lentSV (rstO (doF r (a, b, c, p, q, s)).1) (bv (doF r (a, b, c, p, q, s)).2)) := by
  unfold specDo
  simp only [asRstO_rst]
  exact whenC_pos _ h
@[simp] theorem sDoF {l : List (Cell Unit)} {y : SV Unit} : specDo [⟨.one, [.c (.bx false () l)]⟩, y] = none := by
  unfold specDo
  simp only [asRstO_fro]
@[simp] theorem callDo {E : Env} {σ : St Unit} {t : Nat} {l : List Operand} : effCall Try.prog E ΩU σ t 30 l = callO E 30 t (argsOf Try.prog ΩU σ [63, 59] l) := eff_call Try.func30 Try.params30
@[simp] theorem lendDo {E : Env} {σ : St Unit} {t s : Nat} {l : List Operand} : effLend Try.prog E ΩU σ t 30 (.tmp s :: l) = lendO E σ t s 30 [59] l := eff_lend Try.func30 Try.params30
/-- What a cut makes of what is left. -/
theorem do_step {n : Nat} {r : Rst} {a b c : Nat} {p q s : Int} (h : RstI n r) (k : CutI n r a b c p q s) : RstI n (doF r ((a : Int), (b : Int), (c : Int), p, q, s)).1 ∧ ((doF r ((a : Int), (b : Int), (c : Int), p, q, s)).2 = true → (doF r ((a : Int), (b : Int), (c : Int), p, q, s)).1.count = r.count - 1 ∨ (doF r ((a : Int), (b : Int), (c : Int), p, q, s)).1.count = r.count - 2) := by
  rcases cut_kinds h k with ⟨p', q', s', rfl, rfl, rfl, w⟩ | ⟨q', s', rfl, rfl, rfl, w⟩ | ⟨p', s', rfl, rfl, rfl, w⟩ | ⟨p', q', rfl, rfl, rfl, w⟩
  · rw [doF_small]
    exact ⟨(w.step h).1, fun e => .inr ((w.step h).2 e)⟩
  · rw [doF_wide' r _ _ _ _ _ _ (by omega), wideC_0]
    exact ⟨(w.step h).1, fun e => .inl ((w.step h).2 e)⟩
  · rw [doF_wide' r _ _ _ _ _ _ (by omega), wideC_1]
    exact ⟨(w.step h).1, fun e => .inl ((w.step h).2 e)⟩
  · rw [doF_wide' r _ _ _ _ _ _ (by omega), wideC_2]
    exact ⟨(w.step h).1, fun e => .inl ((w.step h).2 e)⟩
end Go.Proofs.Ytnmocjhpbobahaa.L
