/- UW: a wide cut keeps the code's rows and the document's table in agreement. RE: rest.do as a call. UJ: a vertex leaves, two are joined, marks are laid: the code's rows and the document's table go on agreeing; small cuts. -/
import Derived.Test.YtnmocjhpbobahaaQ20
import Derived.Test.YtnmocjhpbobahaaQ21
import Derived.Test.YtnmocjhpbobahaaQ19
set_option linter.unusedVariables false
set_option linter.unusedSimpArgs false
set_option linter.unnecessarySimpa false
namespace Go.Proofs.Ytnmocjhpbobahaa.L
open Go Go.RowKit
set_option maxRecDepth 100000
theorem Agr.wide {n : Nat} {r : Rst} {t : Tbl} (h : Agr n r t) {u x y s w : Nat} (k : WideI n r u x y s w) : (wideT t u x y s w).2 = (wideF r u x y s w).2 ∧ Agr n (wideF r u x y s w).1 (wideT t u x y s w).1 := by
  obtain ⟨gx, gy, gw, gs⟩ := k.gone h.rst
  have st := (k.step h.rst).1
  have hxy : x ≠ y := by have := k.xy; omega
  have hxw : x ≠ w := fun e => k.tx e.symm
  unfold wideT wideF at *
  rw [h.inner k.xn gx, h.inner k.yn gy, h.inner k.sn gs, h.inner k.tn gw]
  by_cases hc : s = w ∨ innB r x = true ∨ innB r y = true ∨ innB r s = true ∨ innB r w = true
  · rw [if_pos hc, if_pos hc]; exact ⟨rfl, h⟩
  · rw [if_neg hc] at st ⊢
    rw [if_neg hc]
    refine ⟨rfl, ⟨st, ?_, ?_, fun v hv => ?_, fun v hv hg x' hx' => ?_⟩⟩
    · have hj := (h.tb.off y).join k.xn k.tn
      exact ⟨hj.inn, hj.adj, hj.row, by simp only [List.length_set]; exact hj.mark⟩
    · show ((((t.mark.set u 2).set x 1).set s 1).set w 1) = ((((r.mark.set u 2).set x 1).set s 1).set w 1)
      rw [h.mark]
    · show nthB (t.inn.set y false) v = !(nthB (r.gone.set y true) v)
      rw [nthB_set (by rw [h.tb.inn]; exact k.yn), nthB_set (by rw [h.rst.toRstOk.gone]; exact k.yn), h.inn v hv]
      split <;> rfl
    · have hg : nthB (r.gone.set y true) v = false := hg
      rw [nthB_set (by rw [h.rst.toRstOk.gone]; exact k.yn)] at hg
      by_cases e : y = v
      · rw [if_pos e] at hg; cases hg
      · rw [if_neg e] at hg
        have hvy : v ≠ y := fun q => e q.symm
        show (x' : Int) ∈ nthR ((r.leave y).join x w).near v ↔ nthB (t.inn.set y false) x' = true ∧ nthB (nthT ((t.off y).join x w).adj v) x' = true
        rw [join_mem (h.rst.toRstS.leave k.yn).toRstOk k.xn k.tn hxw, leave_mem h.rst.toRstS k.yn hv, nthB_set (by rw [h.tb.inn]; exact k.yn), join_at (h.tb.off y) k.xn k.tn hxw v x' hv hx', h.adj v hv hg x' hx']
        have ix : nthB t.inn x = true := by rw [h.inn x k.xn, gx]; rfl
        have iw : nthB t.inn w = true := by rw [h.inn w k.tn, gw]; rfl
        have hoff : (t.off y).adj = t.adj := rfl
        rw [hoff]
        by_cases q1 : v = x ∧ x' = w
        · obtain ⟨rfl, rfl⟩ := q1
          rw [if_neg (fun e => k.ty e.symm), if_pos (.inl ⟨rfl, rfl⟩)]
          exact ⟨fun _ => ⟨iw, rfl⟩, fun _ => .inr (.inr ⟨rfl, rfl⟩)⟩
        · by_cases q2 : v = w ∧ x' = x
          · obtain ⟨rfl, rfl⟩ := q2
            rw [if_neg (fun e => hxy e.symm), if_pos (.inr ⟨rfl, rfl⟩)]
            exact ⟨fun _ => ⟨ix, rfl⟩, fun _ => .inr (.inl ⟨rfl, rfl⟩)⟩
          · have hn12 : ¬ ((v = x ∧ x' = w) ∨ (v = w ∧ x' = x)) := fun e => e.elim q1 q2
            rw [if_neg hn12]
            by_cases q3 : y = x'
            · rw [if_pos q3]
              constructor
              · rintro (⟨_, _, e'⟩ | ⟨e1, e2⟩ | ⟨e1, e2⟩)
                · exact absurd (by omega) e'
                · exact absurd ⟨e1, by omega⟩ q2
                · exact absurd ⟨e1, by omega⟩ q1
              · rintro ⟨e', _⟩; cases e'
            · rw [if_neg q3]
              constructor
              · rintro (⟨e', _, _⟩ | ⟨e1, e2⟩ | ⟨e1, e2⟩)
                · exact e'
                · exact absurd ⟨e1, by omega⟩ q2
                · exact absurd ⟨e1, by omega⟩ q1
              · intro e'
                exact .inl ⟨e', hvy, by omega⟩
end Go.Proofs.Ytnmocjhpbobahaa.L
namespace Go.Proofs.Ytnmocjhpbobahaa.L
open Go Go.RowKit
set_option maxRecDepth 100000
theorem isT_eq {r : Rst} {v : Nat} (h : (nthR r.near v).length = 3) : isT r v = 1 := by unfold isT; rw [if_pos h]
theorem isT_ne {r : Rst} {v : Nat} (h : (nthR r.near v).length ≠ 3) : isT r v = 0 := by unfold isT; rw [if_neg h]
theorem or213 {a b c : Prop} (h : a ∨ b ∨ c) : b ∨ a ∨ c := by
  rcases h with h | h | h
  · exact .inr (.inl h)
  · exact .inl h
  · exact .inr (.inr h)
theorem cut_kinds {n : Nat} {r : Rst} {a b c : Nat} {p q s : Int} (h : RstI n r) (k : CutI n r a b c p q s) :
    (∃ p' q' s' : Nat, p = p' ∧ q = q' ∧ s = s' ∧ SmallI n r a b c p' q' s') ∨ (∃ q' s' : Nat, p = -1 ∧ q = q' ∧ s = s' ∧ WideI n r a b c q' s') ∨ (∃ p' s' : Nat, q = -1 ∧ p = p' ∧ s = s' ∧ WideI n r b a c p' s') ∨ (∃ p' q' : Nat, s = -1 ∧ p = p' ∧ q = q' ∧ WideI n r c a b p' q') := by
  have h1 := k.ab; have h2 := k.bc; have h3 := k.cn
  have an : a < n := by omega
  have bn : b < n := by omega
  have eba := h.sym a b an bn k.eab
  have eca := h.sym a c an k.cn k.eac
  have ecb := h.sym b c bn k.cn k.ebc
  have tw := k.two
  rcases k.ka with ⟨la, p', rfl, pn, pm, p1, p2, p3, pa⟩ | ⟨la, rfl⟩
  · rcases k.kb with ⟨lb, q', rfl, qn, qm, q1, q2, q3, qa⟩ | ⟨lb, rfl⟩
    · rcases k.kc with ⟨lc, s', rfl, sn, sm, s1, s2, s3, sa⟩ | ⟨lc, rfl⟩
      · exact .inl ⟨p', q', s', rfl, rfl, rfl, ⟨h1, h2, h3, pn, qn, sn, k.cnt, la, lb, lc, k.eab, k.eac, k.ebc, pm, qm, sm, ⟨p1, p2, p3⟩, ⟨q1, q2, q3⟩, ⟨s1, s2, s3⟩, pa, qa, sa⟩⟩
      · exact .inr (.inr (.inr ⟨p', q', rfl, rfl, rfl, ⟨h3, an, bn, pn, qn, h1, by omega, by omega, lc, la, lb, k.cnt, k.eac, k.ebc, eba, pm, qm, p3, p1, p2, q3, q2, q1, fun z hz => or213 (pa z hz), fun z hz => or213 (qa z hz)⟩⟩))
    · rcases k.kc with ⟨lc, s', rfl, sn, sm, s1, s2, s3, sa⟩ | ⟨lc, rfl⟩
      · exact .inr (.inr (.inl ⟨p', s', rfl, rfl, rfl, ⟨bn, an, h3, pn, sn, by omega, by omega, by omega, lb, la, lc, k.cnt, k.eab, ecb, eca, pm, sm, p2, p1, p3, s3, s2, s1, pa, fun z hz => or213 (sa z hz)⟩⟩))
      · rw [isT_eq la, isT_ne lb, isT_ne lc] at tw; omega
  · rcases k.kb with ⟨lb, q', rfl, qn, qm, q1, q2, q3, qa⟩ | ⟨lb, rfl⟩
    · rcases k.kc with ⟨lc, s', rfl, sn, sm, s1, s2, s3, sa⟩ | ⟨lc, rfl⟩
      · exact .inr (.inl ⟨q', s', rfl, rfl, rfl, ⟨an, bn, h3, qn, sn, h2, by omega, by omega, la, lb, lc, k.cnt, eba, eca, ecb, qm, sm, q2, q1, q3, s2, s3, s1, qa, sa⟩⟩)
      · rw [isT_ne la, isT_eq lb, isT_ne lc] at tw; omega
    · have := isT_le r c
      rw [isT_ne la, isT_ne lb] at tw; omega
def doF (r : Rst) (e : Cu) : Rst × Bool :=
  if minL [e.2.2.2.1, e.2.2.2.2.1, e.2.2.2.2.2] < 0 then wideC r e else smallF r e.1.toNat e.2.1.toNat e.2.2.1.toNat e.2.2.2.1.toNat e.2.2.2.2.1.toNat e.2.2.2.2.2.toNat
theorem minL3 (p q s : Int) : minL [p, q, s] = min (min p q) s := rfl
theorem doF_small (r : Rst) (a b c p q s : Nat) : doF r ((a : Int), (b : Int), (c : Int), (p : Int), (q : Int), (s : Int)) = smallF r a b c p q s := by
  have hm : ¬ minL [(p : Int), (q : Int), (s : Int)] < 0 := by rw [minL3]; omega
  unfold doF
  rw [if_neg hm]
  rfl
theorem doF_wide (r : Rst) {e : Cu} (h : minL [e.2.2.2.1, e.2.2.2.2.1, e.2.2.2.2.2] < 0) : doF r e = wideC r e := by unfold doF; rw [if_pos h]
theorem doF_wide' (r : Rst) (a b c p q s : Int) (h : min (min p q) s < 0) : doF r (a, b, c, p, q, s) = wideC r (a, b, c, p, q, s) := doF_wide r h
def DoOk (r : Rst) (e : Cu) : Prop := ∃ (n a b c : Nat) (p q s : Int), RstI n r ∧ n ≤ 1000000 ∧ e = ((a : Int), (b : Int), (c : Int), p, q, s) ∧ CutI n r a b c p q s
theorem EDo_ok : EnvOk Try.prog EDo := ext_ok (ext_ok (ext_ok (ext_ok (ext_ok env0_ok okMin) okWide) okWants) okLeave) okJoin
noncomputable def specDo : Spec := fun us => match us with
  | [x, y] => match asRstO x, asCu y with
    | some r, some e => whenC (DoOk r e) (lentSV (rstO (doF r e).1) (bv (doF r e).2))
    | _, _ => none
  | _ => none
theorem goodDoWide {r : Rst} {e : Cu} (hw : WideOk r e) (hm : minL [e.2.2.2.1, e.2.2.2.2.1, e.2.2.2.2.2] < 0) : GoodE Try.prog 30 [one (.c (rstO r)), cu6 e] (lentSV (rstO (doF r e).1) (bv (doF r e).2)) := by
  rw [doF_wide r hm]
  obtain ⟨a, b, c, p, q, s⟩ := e
  have := wDoWide r a b c p q s hw hm
  unfold GoodE
  exact goodByRL EDo_ok Try.func30 rfl (Nat.le_of_ble_eq_true rfl) (by decide) this
theorem okDo : SpecOk 30 specDo := by
  intro us R h
  unfold specDo at h
  split at h
  · split at h
    · next x y _ r e h1 h2 =>
      obtain ⟨⟨n, a, b, c, p, q, s, hr, hn, rfl, k⟩, rfl⟩ := whenC_eq h
      rw [asRstO_eq h1, asCu_eq h2]
      rcases cut_kinds hr k with ⟨p', q', s', rfl, rfl, rfl, w⟩ | ⟨q', s', rfl, rfl, rfl, w⟩ | ⟨p', s', rfl, rfl, rfl, w⟩ | ⟨p', q', rfl, rfl, rfl, w⟩
      · have hb := w.ab; have hb2 := w.bc; have hb3 := w.cn
        have hmem := w.cb hr
        have hdb := w.db
        unfold deg at hdb
        have := wDoSmall n r hr.toRstS hn a b c p' q' s' (by omega) (by omega) hb3 w.pn w.qn w.sn hr.mks (by have := hr.cnt_le; have := w.cnt; omega) (by omega) (List.length_pos_of_mem hmem) (fun e => w.qa.2.1 e.symm) (fun e => w.sa.2.1 e.symm) (w.noq hr)
        rw [doF_small]
        show GoodE Try.prog 30 (one (.c (rstO r)) :: _) _
        unfold GoodE
        exact goodByRL EDo_ok Try.func30 rfl (Nat.le_of_ble_eq_true rfl) (by decide) this
      · exact goodDoWide (w.ok hr hn (.inl rfl)) (show min (min (-1 : Int) (q' : Int)) (s' : Int) < 0 by omega)
      · exact goodDoWide (w.ok hr hn (.inr (.inl rfl))) (show min (min (p' : Int) (-1 : Int)) (s' : Int) < 0 by omega)
      · exact goodDoWide (w.ok hr hn (.inr (.inr rfl))) (show min (min (p' : Int) (q' : Int)) (-1 : Int) < 0 by omega)
    · cases h
  · cases h
@[simp] theorem sDoX {r : Rst} {a b c p q s : Int} (h : DoOk r (a, b, c, p, q, s)) : specDo [⟨.one, [.c (rstO r)]⟩, ⟨.agg, [.c (.sc (.int .i64 a)), .c (.sc (.int .i64 b)), .c (.sc (.int .i64 c)), .c (.sc (.int .i64 p)), .c (.sc (.int .i64 q)), .c (.sc (.int .i64 s))]⟩] = some (lentSV (rstO (doF r (a, b, c, p, q, s)).1) (bv (doF r (a, b, c, p, q, s)).2)) := by
  unfold specDo
  simp only [asRstO_rst]
  exact whenC_pos _ h
@[simp] theorem sDoF {l : List (Cell Unit)} {y : SV Unit} : specDo [⟨.one, [.c (.bx false () l)]⟩, y] = none := by
  unfold specDo
  simp only [asRstO_fro]
@[simp] theorem callDo {E : Env} {σ : St Unit} {t : Nat} {l : List Operand} : effCall Try.prog E ΩU σ t 30 l = callO E 30 t (argsOf Try.prog ΩU σ [63, 59] l) := eff_call Try.func30 Try.params30
@[simp] theorem lendDo {E : Env} {σ : St Unit} {t s : Nat} {l : List Operand} : effLend Try.prog E ΩU σ t 30 (.tmp s :: l) = lendO E σ t s 30 [59] l := eff_lend Try.func30 Try.params30
/-- What a cut makes of what is left. -/
theorem do_step {n : Nat} {r : Rst} {a b c : Nat} {p q s : Int} (h : RstI n r) (k : CutI n r a b c p q s) : RstI n (doF r ((a : Int), (b : Int), (c : Int), p, q, s)).1 ∧ ((doF r ((a : Int), (b : Int), (c : Int), p, q, s)).2 = true → (doF r ((a : Int), (b : Int), (c : Int), p, q, s)).1.count = r.count - 1 ∨ (doF r ((a : Int), (b : Int), (c : Int), p, q, s)).1.count = r.count - 2) := by
  rcases cut_kinds h k with ⟨p', q', s', rfl, rfl, rfl, w⟩ | ⟨q', s', rfl, rfl, rfl, w⟩ | ⟨p', s', rfl, rfl, rfl, w⟩ | ⟨p', q', rfl, rfl, rfl, w⟩
  · rw [doF_small]
    exact ⟨(w.step h).1, fun e => .inr ((w.step h).2 e)⟩
  · rw [doF_wide' r _ _ _ _ _ _ (by omega), wideC_0]
    exact ⟨(w.step h).1, fun e => .inl ((w.step h).2 e)⟩
  · rw [doF_wide' r _ _ _ _ _ _ (by omega), wideC_1]
    exact ⟨(w.step h).1, fun e => .inl ((w.step h).2 e)⟩
  · rw [doF_wide' r _ _ _ _ _ _ (by omega), wideC_2]
    exact ⟨(w.step h).1, fun e => .inl ((w.step h).2 e)⟩
theorem doF_no {n : Nat} {r : Rst} {a b c : Nat} {p q s : Int} (h : RstI n r) (k : CutI n r a b c p q s) (hf : (doF r ((a : Int), (b : Int), (c : Int), p, q, s)).2 = false) : (doF r ((a : Int), (b : Int), (c : Int), p, q, s)).1 = r := by
  have wf : ∀ u x y s t, (wideF r u x y s t).2 = false → (wideF r u x y s t).1 = r := by
    intro u x y s t e
    unfold wideF at e ⊢
    split
    · rfl
    · next hn => rw [if_neg hn] at e; cases e
  rcases cut_kinds h k with ⟨p', q', s', rfl, rfl, rfl, w⟩ | ⟨q', s', rfl, rfl, rfl, w⟩ | ⟨p', s', rfl, rfl, rfl, w⟩ | ⟨p', q', rfl, rfl, rfl, w⟩
  · rw [doF_small] at hf ⊢
    unfold smallF at hf ⊢
    split
    · next hn => rw [if_pos hn] at hf; cases hf
    · rfl
  · rw [doF_wide' r _ _ _ _ _ _ (by omega), wideC_0] at hf ⊢; exact wf _ _ _ _ _ hf
  · rw [doF_wide' r _ _ _ _ _ _ (by omega), wideC_1] at hf ⊢; exact wf _ _ _ _ _ hf
  · rw [doF_wide' r _ _ _ _ _ _ (by omega), wideC_2] at hf ⊢; exact wf _ _ _ _ _ hf
end Go.Proofs.Ytnmocjhpbobahaa.L
namespace Go.Proofs.Ytnmocjhpbobahaa.L
open Go Go.RowKit
set_option maxRecDepth 100000
theorem Agr.leave {n : Nat} {r : Rst} {t : Tbl} (h : Agr n r t) {y : Nat} (hy : y < n) (gy : nthB r.gone y = false) : Agr n (r.leave y) (t.off y) := by
  refine ⟨h.rst.leave hy gy, h.tb.off y, h.mark, fun v hv => ?_, fun v hv hg x hx => ?_⟩
  · show nthB (t.inn.set y false) v = !(nthB (r.gone.set y true) v)
    rw [nthB_set (by rw [h.tb.inn]; exact hy), nthB_set (by rw [h.rst.toRstOk.gone]; exact hy), h.inn v hv]
    split <;> rfl
  · have hg : nthB (r.gone.set y true) v = false := hg
    rw [nthB_set (by rw [h.rst.toRstOk.gone]; exact hy)] at hg
    by_cases e : y = v
    · rw [if_pos e] at hg; cases hg
    · rw [if_neg e] at hg
      show _ ↔ nthB (t.inn.set y false) x = true ∧ nthB (nthT t.adj v) x = true
      rw [leave_mem h.rst.toRstS hy hv, nthB_set (by rw [h.tb.inn]; exact hy), h.adj v hv hg x hx]
      by_cases q : y = x
      · rw [if_pos q]
        constructor
        · rintro ⟨_, _, e'⟩; exact absurd (by omega) e'
        · rintro ⟨e', _⟩; cases e'
      · rw [if_neg q]
        constructor
        · rintro ⟨e', _, _⟩; exact e'
        · exact fun e' => ⟨e', fun q' => e q'.symm, by omega⟩
theorem Agr.join {n : Nat} {r : Rst} {t : Tbl} (h : Agr n r t) {a b : Nat} (ha : a < n) (hb : b < n) (hab : a ≠ b) (hno : (b : Int) ∉ nthR r.near a) (ga : nthB r.gone a = false) (gb : nthB r.gone b = false) : Agr n (r.join a b) (t.join a b) := by
  have hj := h.tb.join ha hb
  refine ⟨h.rst.join ha hb hab hno ga gb, ⟨hj.inn, hj.adj, hj.row, h.tb.mark⟩, h.mark, h.inn, fun v hv hg x hx => ?_⟩
  have hg : nthB r.gone v = false := hg
  rw [join_mem h.rst.toRstOk ha hb hab, join_at h.tb ha hb hab v x hv hx]
  show _ ↔ nthB t.inn x = true ∧ _
  rw [h.adj v hv hg x hx]
  have ia : nthB t.inn a = true := by rw [h.inn a ha, ga]; rfl
  have ib : nthB t.inn b = true := by rw [h.inn b hb, gb]; rfl
  by_cases q : (v = a ∧ x = b) ∨ (v = b ∧ x = a)
  · rw [if_pos q]
    constructor
    · intro _
      refine ⟨?_, rfl⟩
      rcases q with ⟨_, rfl⟩ | ⟨_, rfl⟩
      · exact ib
      · exact ia
    · intro _
      rcases q with ⟨rfl, rfl⟩ | ⟨rfl, rfl⟩
      · exact .inr (.inr ⟨rfl, rfl⟩)
      · exact .inr (.inl ⟨rfl, rfl⟩)
  · rw [if_neg q]
    constructor
    · rintro (e | ⟨e1, e2⟩ | ⟨e1, e2⟩)
      · exact e
      · exact absurd (.inr ⟨e1, by omega⟩) q
      · exact absurd (.inl ⟨e1, by omega⟩) q
    · exact .inl
theorem Agr.marks {n : Nat} {r : Rst} {t : Tbl} (h : Agr n r t) {m : List Int} (hl : m.length = n) (hm : ∀ v, v < n → nth m v = 0 ∨ nth m v = 1 ∨ nth m v = 2) : Agr n ⟨r.near, m, r.gone, r.count⟩ ⟨t.inn, t.adj, m⟩ :=
  ⟨h.rst.marks hl hm, ⟨h.tb.inn, h.tb.adj, h.tb.row, hl⟩, rfl, h.inn, h.adj⟩
/-! ### a small cut -/
def ctM (m : List Int) (k : Int) (v : Nat) : Int := if nth m v = k then 1 else 0
def cntM3 (m : List Int) (k : Int) (a b c : Nat) : Int := ctM m k a + ctM m k b + ctM m k c
/-- Is it the inner one? -/
def topM (m : List Int) (i2 i1 : Int) (v : Nat) : Bool := decide (nth m v = 2 ∨ (i2 = 0 ∧ i1 = 2 ∧ nth m v = 0))
def zM (m : List Int) (i2 i1 : Int) (a b c : Nat) : Int := if topM m i2 i1 c = true then 2 else if topM m i2 i1 b = true then 1 else if topM m i2 i1 a = true then 0 else -1
def toM (m : List Int) (z i : Int) (v : Nat) : Int := if z = i then 2 else if 0 ≤ z ∨ nth m v = 1 then 1 else 0
def badT (t : Tbl) (k : Int) (o : Nat) : Bool := decide (k = 2 ∧ nth t.mark o = 1) || (decide (k = 1) && innT t o)
def layT (m : List Int) (k : Int) (o : Nat) : List Int := if 0 < k then m.set o k else m
def zT (t : Tbl) (a b c : Nat) : Int := zM t.mark (cntM3 t.mark 2 a b c) (cntM3 t.mark 1 a b c) a b c
def toT (t : Tbl) (a b c : Nat) (i : Int) (v : Nat) : Int := toM t.mark (zT t a b c) i v
/-- The marks that a small cut lays. -/
def layS (t : Tbl) (a b c p q s : Nat) : List Int := layT (layT (layT t.mark (toT t a b c 0 a) p) (toT t a b c 1 b) q) (toT t a b c 2 c) s
def smallNo (t : Tbl) (a b c p q s : Nat) : Prop := p = q ∨ p = s ∨ q = s ∨ 1 < cntM3 t.mark 2 a b c ∨ cntM3 t.mark 1 a b c = 3 ∨ badT t (toT t a b c 0 a) p = true ∨ badT t (toT t a b c 1 b) q = true ∨ badT t (toT t a b c 2 c) s = true
noncomputable instance (t : Tbl) (a b c p q s : Nat) : Decidable (smallNo t a b c p q s) := by unfold smallNo; infer_instance
noncomputable def smallT (t : Tbl) (a b c p q s : Nat) : Tbl × Bool :=
  if smallNo t a b c p q s then (t, false)
  else (⟨(((((⟨t.inn, t.adj, layS t a b c p q s⟩ : Tbl).off b).off c).join a q).join a s).inn, (((((⟨t.inn, t.adj, layS t a b c p q s⟩ : Tbl).off b).off c).join a q).join a s).adj, (layS t a b c p q s).set a 1⟩, true)
def wOf (k : Int) (o : Nat) : List (Int × Int) := if k = 0 then [] else [((o : Int), k)]
theorem toM_012 (m : List Int) (z i : Int) (v : Nat) : toM m z i v = 0 ∨ toM m z i v = 1 ∨ toM m z i v = 2 := by
  unfold toM
  split
  · omega
  · split <;> omega
theorem layM_wOf (m : List Int) {k : Int} (hk : k = 0 ∨ k = 1 ∨ k = 2) (o : Nat) : layM m (wOf k o) = layT m k o := by
  unfold layM wOf layT
  rcases hk with rfl | rfl | rfl <;> simp
theorem layM_app (m : List Int) (l l' : List (Int × Int)) : layM m (l ++ l') = layM (layM m l) l' := by
  unfold layM; rw [List.foldl_append]
theorem layT_comm (m : List Int) (k : Int) {o a : Nat} (h : o ≠ a) (x : Int) : layT (m.set a x) k o = (layT m k o).set a x := by
  unfold layT
  split
  · rw [List.set_comm _ _ (fun e => h e.symm)]
  · rfl
theorem any_wOf (r : Rst) {k : Int} (hk : k = 0 ∨ k = 1 ∨ k = 2) (o : Nat) (t : Tbl) (hm : t.mark = r.mark) (hi : innT t o = innB r o) : (wOf k o).any (badW r) = badT t k o := by
  unfold wOf badT
  rcases hk with rfl | rfl | rfl
  · simp
  · rw [if_neg (by omega)]; simp [badW, hi]
  · rw [if_neg (by omega)]; simp [badW, hm]
theorem want_to (r : Rst) {a b c p q s : Nat} (ha : nth r.mark a = 0 ∨ nth r.mark a = 1 ∨ nth r.mark a = 2) (hb : nth r.mark b = 0 ∨ nth r.mark b = 1 ∨ nth r.mark b = 2) (hc : nth r.mark c = 0 ∨ nth r.mark c = 1 ∨ nth r.mark c = 2) (h2 : ¬ 1 < cntM3 r.mark 2 a b c) (h1 : ¬ cntM3 r.mark 1 a b c = 3) :
    wantsAll r a b c p q s = wOf (toM r.mark (zM r.mark (cntM3 r.mark 2 a b c) (cntM3 r.mark 1 a b c) a b c) 0 a) p ++ wOf (toM r.mark (zM r.mark (cntM3 r.mark 2 a b c) (cntM3 r.mark 1 a b c) a b c) 1 b) q ++ wOf (toM r.mark (zM r.mark (cntM3 r.mark 2 a b c) (cntM3 r.mark 1 a b c) a b c) 2 c) s := by
  have e : ∀ k v, ct r k v = ctM r.mark k v := fun _ _ => rfl
  have e3 : ∀ k, cnt3 r k a b c = cntM3 r.mark k a b c := fun _ => rfl
  unfold wantsAll
  rw [e3, e3]
  unfold cntM3 ctM at *
  unfold wantOne apexB zM topM toM wOf
  rcases ha with ha | ha | ha <;> rcases hb with hb | hb | hb <;> rcases hc with hc | hc | hc <;> simp only [ha, hb, hc] at h1 h2 ⊢ <;> first | (exfalso; revert h1 h2; decide) | simp
theorem Agr.small {n : Nat} {r : Rst} {t : Tbl} (h : Agr n r t) {a b c p q s : Nat} (w : SmallI n r a b c p q s) : (smallT t a b c p q s).2 = (smallF r a b c p q s).2 ∧ Agr n (smallF r a b c p q s).1 (smallT t a b c p q s).1 := by
  have h1 := w.ab; have h2 := w.bc; have h3 := w.cn
  have bn : b < n := by omega
  have an : a < n := by omega
  have ga : nthB r.gone a = false := h.rst.left an w.eab
  have gb : nthB r.gone b = false := h.rst.left bn w.ebc
  have gc : nthB r.gone c = false := h.rst.left w.cn w.ecs
  have gp : nthB r.gone p = false := h.rst.left w.pn (h.rst.sym a p an w.pn w.eap)
  have gq : nthB r.gone q = false := h.rst.left w.qn (h.rst.sym b q bn w.qn w.ebq)
  have gs : nthB r.gone s = false := h.rst.left w.sn (h.rst.sym c s w.cn w.sn w.ecs)
  have hm := h.mark
  have st := (w.step h.rst).1
  have k0 := toM_012 t.mark (zT t a b c) 0 a
  have k1 := toM_012 t.mark (zT t a b c) 1 b
  have k2 := toM_012 t.mark (zT t a b c) 2 c
  have e3 : ∀ k, cnt3 r k a b c = cntM3 t.mark k a b c := fun _ => by rw [hm]; rfl
  have hc1 : cntM3 t.mark 1 a b c ≤ 3 := by
    unfold cntM3 ctM
    split <;> split <;> split <;> omega
  -- whether it can be done
  have key : (wantsF r a b c p q s).2 = true ↔ ¬ smallNo t a b c p q s := by
    unfold wantsF smallNo
    rw [e3, e3]
    by_cases q1 : p = q ∨ p = s ∨ q = s ∨ 1 < cntM3 t.mark 2 a b c ∨ cntM3 t.mark 1 a b c = 3
    · rw [if_pos (by rcases q1 with q | q | q | q | q
                     · exact .inl q
                     · exact .inr (.inl q)
                     · exact .inr (.inr (.inl q))
                     · exact .inr (.inr (.inr (.inl q)))
                     · exact .inr (.inr (.inr (.inr (.inl (by omega))))))]
      constructor
      · intro q; cases q
      · intro q; exact absurd (by rcases q1 with q | q | q | q | q
                                  · exact .inl q
                                  · exact .inr (.inl q)
                                  · exact .inr (.inr (.inl q))
                                  · exact .inr (.inr (.inr (.inl q)))
                                  · exact .inr (.inr (.inr (.inr (.inl q))))) q
    · have w2 : ¬ 1 < cntM3 r.mark 2 a b c := by rw [← hm]; exact fun q => q1 (.inr (.inr (.inr (.inl q))))
      have w1 : ¬ cntM3 r.mark 1 a b c = 3 := by rw [← hm]; exact fun q => q1 (.inr (.inr (.inr (.inr q))))
      have wt := want_to r (p := p) (q := q) (s := s) (h.rst.mks a an) (h.rst.mks b bn) (h.rst.mks c w.cn) w2 w1
      rw [← hm] at wt
      change wantsAll r a b c p q s = wOf (toM t.mark (zT t a b c) 0 a) p ++ wOf (toM t.mark (zT t a b c) 1 b) q ++ wOf (toM t.mark (zT t a b c) 2 c) s at wt
      have hany : (wantsAll r a b c p q s).any (badW r) = (badT t (toT t a b c 0 a) p || badT t (toT t a b c 1 b) q || badT t (toT t a b c 2 c) s) := by
        rw [wt, List.any_append, List.any_append]
        rw [any_wOf r k0 p t hm (h.inner w.pn gp), any_wOf r k1 q t hm (h.inner w.qn gq), any_wOf r k2 s t hm (h.inner w.sn gs)]
        rfl
      rw [hany]
      have hn2 : ¬ 2 < cntM3 t.mark 1 a b c := fun q => q1 (.inr (.inr (.inr (.inr (by omega)))))
      cases hb : (badT t (toT t a b c 0 a) p || badT t (toT t a b c 1 b) q || badT t (toT t a b c 2 c) s) with
      | true =>
        rw [if_pos (.inr (.inr (.inr (.inr (.inr rfl)))))]
        constructor
        · intro q; cases q
        · intro q
          exfalso; apply q
          rw [Bool.or_eq_true, Bool.or_eq_true] at hb
          rcases hb with (hb | hb) | hb
          · exact .inr (.inr (.inr (.inr (.inr (.inl hb)))))
          · exact .inr (.inr (.inr (.inr (.inr (.inr (.inl hb))))))
          · exact .inr (.inr (.inr (.inr (.inr (.inr (.inr hb))))))
      | false =>
        rw [Bool.or_eq_false_iff, Bool.or_eq_false_iff] at hb
        rw [if_neg (by
          rintro (q | q | q | q | q | q)
          · exact q1 (.inl q)
          · exact q1 (.inr (.inl q))
          · exact q1 (.inr (.inr (.inl q)))
          · exact q1 (.inr (.inr (.inr (.inl q))))
          · exact hn2 q
          · cases q)]
        constructor
        · intro _
          rintro (q | q | q | q | q | q | q | q)
          · exact q1 (.inl q)
          · exact q1 (.inr (.inl q))
          · exact q1 (.inr (.inr (.inl q)))
          · exact q1 (.inr (.inr (.inr (.inl q))))
          · exact q1 (.inr (.inr (.inr (.inr q))))
          · rw [hb.1.1] at q; cases q
          · rw [hb.1.2] at q; cases q
          · rw [hb.2] at q; cases q
        · intro _; rfl
  unfold smallT
  unfold smallF at st ⊢
  by_cases hno : smallNo t a b c p q s
  · have hw : (wantsF r a b c p q s).2 = false := by
      cases hh : (wantsF r a b c p q s).2 with
      | false => rfl
      | true => exact absurd hno (key.1 hh)
    rw [if_pos hno, hw, if_neg Bool.noConfusion]
    exact ⟨rfl, h⟩
  · have hw := key.2 hno
    rw [if_neg hno, if_pos hw]
    rw [if_pos hw] at st
    refine ⟨rfl, ?_⟩
    have w2 : ¬ 1 < cntM3 r.mark 2 a b c := by rw [← hm]; exact fun q => hno (.inr (.inr (.inr (.inl q))))
    have w1 : ¬ cntM3 r.mark 1 a b c = 3 := by rw [← hm]; exact fun q => hno (.inr (.inr (.inr (.inr (.inl q)))))
    have wt := want_to r (p := p) (q := q) (s := s) (h.rst.mks a an) (h.rst.mks b bn) (h.rst.mks c w.cn) w2 w1
    rw [← hm] at wt
    change wantsAll r a b c p q s = wOf (toM t.mark (zT t a b c) 0 a) p ++ wOf (toM t.mark (zT t a b c) 1 b) q ++ wOf (toM t.mark (zT t a b c) 2 c) s at wt
    have hwl : (wantsF r a b c p q s).1 = wantsAll r a b c p q s := by
      unfold wantsF at hw ⊢
      split
      · next hc => rw [if_pos hc] at hw; cases hw
      · rfl
    obtain ⟨n1, n2, n3⟩ := wants_ne hw
    have gl : b < r.gone.length := by rw [h.rst.toRstOk.gone]; exact bn
    have s1 := h.leave bn gb
    have g1 : ∀ v, v ≠ b → nthB (r.leave b).gone v = nthB r.gone v := fun v hv => by
      show nthB (r.gone.set b true) v = _
      rw [nthB_set gl, if_neg (fun e => hv e.symm)]
    have s2 := s1.leave w.cn (by rw [g1 c (by omega)]; exact gc)
    have gl2 : c < (r.leave b).gone.length := by rw [s1.rst.toRstOk.gone]; exact w.cn
    have g2 : ∀ v, v ≠ b → v ≠ c → nthB ((r.leave b).leave c).gone v = nthB r.gone v := fun v hv hv2 => by
      show nthB ((r.leave b).gone.set c true) v = _
      rw [nthB_set gl2, if_neg (fun e => hv2 e.symm), g1 v hv]
    have hq := w.noq h.rst hw
    have s3 := s2.join an w.qn (fun e => w.qa.2.1 e.symm) hq (by rw [g2 a (by omega) (by omega)]; exact ga) (by rw [g2 q w.qa.1 w.qa.2.2]; exact gq)
    have hs : (s : Int) ∉ nthR (((r.leave b).leave c).join a q).near a := by
      intro e
      rcases (join_mem s2.rst.toRstOk an w.qn (fun e => w.qa.2.1 e.symm) a _).1 e with e | ⟨e, _⟩ | ⟨_, e⟩
      · rw [leave_mem (h.rst.toRstS.leave bn) w.cn an, leave_mem h.rst.toRstS bn an] at e
        rcases w.aa _ e.1.1 with e' | e' | e'
        · exact w.sa.2.2 (by omega)
        · exact w.sa.1 (by omega)
        · exact n2 (by omega)
      · exact w.qa.2.1 e.symm
      · exact n3 (by omega)
    have s4 := s3.join an w.sn (fun e => w.sa.2.1 e.symm) hs (by show nthB ((r.leave b).leave c).gone a = false; rw [g2 a (by omega) (by omega)]; exact ga) (by show nthB ((r.leave b).leave c).gone s = false; rw [g2 s w.sa.2.2 w.sa.1]; exact gs)
    have hlay : layM ((((((r.leave b).leave c).join a q).join a s).mark).set a 1) (wantsF r a b c p q s).1 = (layS t a b c p q s).set a 1 := by
      show layM (r.mark.set a 1) _ = _
      rw [hwl, wt, layM_app, layM_app, layM_wOf _ k0, layM_wOf _ k1, layM_wOf _ k2, layT_comm _ _ w.pa.1, layT_comm _ _ w.qa.2.1, layT_comm _ _ w.sa.2.1, ← hm]
      rfl
    rw [hlay] at st ⊢
    have hj := s4.tb
    exact ⟨st, ⟨hj.inn, hj.adj, hj.row, st.mark⟩, rfl, s4.inn, s4.adj⟩
end Go.Proofs.Ytnmocjhpbobahaa.L
