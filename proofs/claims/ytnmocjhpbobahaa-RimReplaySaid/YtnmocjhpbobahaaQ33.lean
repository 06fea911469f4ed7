/- U61: Rest.small of the document's table (printed by wip/gensmall.py). U36: Rest.Do of the document's table; a cut keeps the agreement. -/
import Derived.Test.YtnmocjhpbobahaaQ32
set_option linter.unusedVariables false
set_option linter.unusedSimpArgs false
set_option linter.unnecessarySimpa false
namespace Go.Proofs.Ytnmocjhpbobahaa.L
open Go Go.RowKit
set_option maxRecDepth 100000
set_option maxHeartbeats 4000000
attribute [local simp] lendO innT_t innT_f
abbrev l1S (t : Tbl) (a b c p q s : Nat) (i1 i2 i : Int) : St Unit := [(0, smO t), (3, cuBx a b c p q s), (5, o3 a b c), (6, o3 p q s), (7, iv i1), (8, iv i2), (9, iv i)]
theorem ctM_le (m : List Int) (k : Int) (v : Nat) : 0 ≤ ctM m k v ∧ ctM m k v ≤ 1 := by unfold ctM; split <;> omega
theorem ctM_eq {m : List Int} {k : Int} {v : Nat} (h : nth m v = k) : ctM m k v = 1 := by unfold ctM; rw [if_pos h]
theorem ctM_ne {m : List Int} {k : Int} {v : Nat} (h : ¬ nth m v = k) : ctM m k v = 0 := by unfold ctM; rw [if_neg h]
theorem smallT_eq (t : Tbl) (a b c p q s : Nat) : smallT t a b c p q s = if p = q ∨ p = s ∨ q = s ∨ 1 < cntM3 t.mark 2 a b c ∨ cntM3 t.mark 1 a b c = 3 then (t, false) else finT t a b c p q s (toM t.mark (zC t.mark (cntM3 t.mark 2 a b c) (cntM3 t.mark 1 a b c) a b c) 0 a) (toM t.mark (zC t.mark (cntM3 t.mark 2 a b c) (cntM3 t.mark 1 a b c) a b c) 1 b) (toM t.mark (zC t.mark (cntM3 t.mark 2 a b c) (cntM3 t.mark 1 a b c) a b c) 2 c) := by
  have hz : zC t.mark (cntM3 t.mark 2 a b c) (cntM3 t.mark 1 a b c) a b c = zT t a b c := rfl
  have e0 : ∀ i v, toM t.mark (zT t a b c) i v = toT t a b c i v := fun _ _ => rfl
  rw [hz, e0, e0, e0]
  unfold smallT finT
  by_cases h1 : p = q ∨ p = s ∨ q = s ∨ 1 < cntM3 t.mark 2 a b c ∨ cntM3 t.mark 1 a b c = 3
  · rw [if_pos h1, if_pos (by unfold smallNo; rcases h1 with h | h | h | h | h
                              · exact .inl h
                              · exact .inr (.inl h)
                              · exact .inr (.inr (.inl h))
                              · exact .inr (.inr (.inr (.inl h)))
                              · exact .inr (.inr (.inr (.inr (.inl h)))))]
  · rw [if_neg h1]
    by_cases h2 : badT t (toT t a b c 0 a) p = true ∨ badT t (toT t a b c 1 b) q = true ∨ badT t (toT t a b c 2 c) s = true
    · rw [if_pos h2, if_pos (by unfold smallNo; exact .inr (.inr (.inr (.inr (.inr h2)))))]
    · rw [if_neg h2, if_neg (by
        unfold smallNo
        rintro (h | h | h | h | h | h)
        · exact h1 (.inl h)
        · exact h1 (.inr (.inl h))
        · exact h1 (.inr (.inr (.inl h)))
        · exact h1 (.inr (.inr (.inr (.inl h))))
        · exact h1 (.inr (.inr (.inr (.inr h))))
        · exact h2 h)]
      rfl
theorem wSmallT (n : Nat) (t : Tbl) (a b c p q s : Nat) (h : SmIn n t a b c p q s) : ∃ k, Try.f61.body = some k ∧ RP regS k (argsSt 0 [smO t, cu6 ((a : Int), (b : Int), (c : Int), (p : Int), (q : Int), (s : Int))]) (endsAsL Try.prog Try.f61 (tbO t) (lentSV (tbO (smallT t a b c p q s).1) (bv (smallT t a b c p q s).2))) := by
  refine ⟨_, rfl, ?_⟩
  generalize hQ : endsAsL Try.prog Try.f61 (tbO t) (lentSV (tbO (smallT t a b c p q s).1) (bv (smallT t a b c p q s).2)) = Q
  simp only [argsSt]
  rw [smallT_eq] at hQ
  have g0 := h.tb.mark
  have ga : a < t.mark.length := by have := h.an; omega
  have gb : b < t.mark.length := by have := h.bn; omega
  have gc : c < t.mark.length := by have := h.cn; omega
  have v0 := ctM_le t.mark 1 a
  have v1 := ctM_le t.mark 1 b
  have v2 := ctM_le t.mark 1 c
  have w0 := ctM_le t.mark 2 a
  have w1 := ctM_le t.mark 2 b
  have w2 := ctM_le t.mark 2 c
  (show RP _ (.seq (.region _ _ false) _) _ _; refine gs ?_)
  (show RP _ (.seq (.region _ _ false) _) _ _; refine gs ?_)
  (show RP _ (.seq (.region _ _ false) _) _ _; refine gs ?_)
  (show RP _ (.seq (.region _ _ false) _) _ _; refine gs ?_)
  (show RP _ (.seq (.region _ _ false) _) _ _; refine gs ?_)
  refine rp_cut fun T hT hr => ?_
  refine go ?_
  apply rp_loop (fun k σ => (k = 3 ∧ σ = l1S t a b c p q s 0 0 0) ∨ (k = 2 ∧ σ = l1S t a b c p q s (ctM t.mark 1 a) (ctM t.mark 2 a) 1) ∨ (k = 1 ∧ σ = l1S t a b c p q s (ctM t.mark 1 a + ctM t.mark 1 b) (ctM t.mark 2 a + ctM t.mark 2 b) 2) ∨ (k = 0 ∧ σ = l1S t a b c p q s (ctM t.mark 1 a + ctM t.mark 1 b + ctM t.mark 1 c) (ctM t.mark 2 a + ctM t.mark 2 b + ctM t.mark 2 c) 3)) 3
  · exact .inl ⟨rfl, rfl⟩
  rintro k σ (⟨rfl, rfl⟩ | ⟨rfl, rfl⟩ | ⟨rfl, rfl⟩ | ⟨rfl, rfl⟩)

  · rcases (by omega : nth t.mark a = 1 ∨ nth t.mark a = 2 ∨ (¬ nth t.mark a = 1 ∧ ¬ nth t.mark a = 2)) with e | e | ⟨e, e'⟩
    · rw [ctM_eq e, ctM_ne (k := 2) (show ¬ nth t.mark a = 2 by omega)]
      refine go ?_
      exact nxt 2 (by omega) (.inr (.inl ⟨rfl, rfl⟩))
    · rw [ctM_eq e, ctM_ne (k := 1) (show ¬ nth t.mark a = 1 by omega)]
      refine go ?_
      exact nxt 2 (by omega) (.inr (.inl ⟨rfl, rfl⟩))
    · rw [ctM_ne e, ctM_ne e']
      refine go ?_
      exact nxt 2 (by omega) (.inr (.inl ⟨rfl, rfl⟩))
  · rcases (by omega : nth t.mark b = 1 ∨ nth t.mark b = 2 ∨ (¬ nth t.mark b = 1 ∧ ¬ nth t.mark b = 2)) with e | e | ⟨e, e'⟩
    · rw [ctM_eq e, ctM_ne (k := 2) (show ¬ nth t.mark b = 2 by omega), Int.add_zero]
      refine go ?_
      exact nxt 1 (by omega) (.inr (.inr (.inl ⟨rfl, rfl⟩)))
    · rw [ctM_eq e, ctM_ne (k := 1) (show ¬ nth t.mark b = 1 by omega), Int.add_zero]
      refine go ?_
      exact nxt 1 (by omega) (.inr (.inr (.inl ⟨rfl, rfl⟩)))
    · rw [ctM_ne e, ctM_ne e', Int.add_zero, Int.add_zero]
      refine go ?_
      exact nxt 1 (by omega) (.inr (.inr (.inl ⟨rfl, rfl⟩)))
  · rcases (by omega : nth t.mark c = 1 ∨ nth t.mark c = 2 ∨ (¬ nth t.mark c = 1 ∧ ¬ nth t.mark c = 2)) with e | e | ⟨e, e'⟩
    · rw [ctM_eq e, ctM_ne (k := 2) (show ¬ nth t.mark c = 2 by omega), Int.add_zero]
      refine go ?_
      exact nxt 0 (by omega) (.inr (.inr (.inr ⟨rfl, rfl⟩)))
    · rw [ctM_eq e, ctM_ne (k := 1) (show ¬ nth t.mark c = 1 by omega), Int.add_zero]
      refine go ?_
      exact nxt 0 (by omega) (.inr (.inr (.inr ⟨rfl, rfl⟩)))
    · rw [ctM_ne e, ctM_ne e', Int.add_zero, Int.add_zero]
      refine go ?_
      exact nxt 0 (by omega) (.inr (.inr (.inr ⟨rfl, rfl⟩)))
  rw [show ctM t.mark 1 a + ctM t.mark 1 b + ctM t.mark 1 c = cntM3 t.mark 1 a b c from rfl, show ctM t.mark 2 a + ctM t.mark 2 b + ctM t.mark 2 c = cntM3 t.mark 2 a b c from rfl]
  have z1 : 0 ≤ cntM3 t.mark 1 a b c ∧ cntM3 t.mark 1 a b c ≤ 3 := by unfold cntM3; omega
  have z2 : 0 ≤ cntM3 t.mark 2 a b c ∧ cntM3 t.mark 2 a b c ≤ 3 := by unfold cntM3; omega
  clear v0 v1 v2 w0 w1 w2
  refine go ?_
  refine hT _ ?_
  clear hT hr
  refine rp_cut fun T hT hr => ?_
  have hno : (p = q ∨ p = s ∨ q = s ∨ 1 < cntM3 t.mark 2 a b c ∨ cntM3 t.mark 1 a b c = 3) → endsAsL Try.prog Try.f61 (tbO t) (lentSV (tbO t) (bv false)) = Q := fun e => by rw [if_pos e] at hQ; exact hQ
  by_cases e1 : p = q
  · have hQ := hno (.inl e1)
    have e1' : (p : Int) = q := by omega
    refine go ?_
    refine hr _ ?_
    refine finL_ret hQ rfl rfl rfl
  have e1' : ¬ (p : Int) = q := by omega
  by_cases e2 : p = s
  · have hQ := hno (.inr (.inl e2))
    have e2' : (p : Int) = s := by omega
    refine go ?_
    refine hr _ ?_
    refine finL_ret hQ rfl rfl rfl
  have e2' : ¬ (p : Int) = s := by omega
  by_cases e3 : q = s
  · have hQ := hno (.inr (.inr (.inl e3)))
    have e3' : (q : Int) = s := by omega
    refine go ?_
    refine hr _ ?_
    refine finL_ret hQ rfl rfl rfl
  have e3' : ¬ (q : Int) = s := by omega
  by_cases e4 : 1 < cntM3 t.mark 2 a b c
  · have hQ := hno (.inr (.inr (.inr (.inl e4))))
    refine go ?_
    refine hr _ ?_
    refine finL_ret hQ rfl rfl rfl
  by_cases e5 : cntM3 t.mark 1 a b c = 3
  · have hQ := hno (.inr (.inr (.inr (.inr e5))))
    refine go ?_
    refine hr _ ?_
    refine finL_ret hQ rfl rfl rfl
  rw [if_neg (by rintro (e | e | e | e | e); exact e1 e; exact e2 e; exact e3 e; exact e4 e; exact e5 e)] at hQ
  refine go ?_
  exact hT _ (small_2 n t a b c p q s h _ _ hQ _ rfl)
theorem ESmallT_ok : EnvOk Try.prog ESmallT := ext_ok (ext_ok env0_ok okInT) okJoinT
def SmallT (t : Tbl) (e : Cu) : Prop := ∃ (n a b c p q s : Nat), SmIn n t a b c p q s ∧ e = ((a : Int), (b : Int), (c : Int), (p : Int), (q : Int), (s : Int))
noncomputable def specSmallT : Spec := fun us => match us with
  | [x, y] => match asTbO x, asCu y with
    | some t, some e => whenC (SmallT t e) (lentSV (tbO (smallT t e.1.toNat e.2.1.toNat e.2.2.1.toNat e.2.2.2.1.toNat e.2.2.2.2.1.toNat e.2.2.2.2.2.toNat).1) (bv (smallT t e.1.toNat e.2.1.toNat e.2.2.1.toNat e.2.2.2.1.toNat e.2.2.2.2.1.toNat e.2.2.2.2.2.toNat).2))
    | _, _ => none
  | _ => none
theorem okSmallT : SpecOk 61 specSmallT := by
  intro us R h
  unfold specSmallT at h
  split at h
  · split at h
    · next x y _ t e h1 h2 =>
      obtain ⟨⟨n, a, b, c, p, q, s, hi, rfl⟩, rfl⟩ := whenC_eq h
      rw [asTbO_eq h1, asCu_eq h2]
      simp only [Int.toNat_natCast]
      show GoodE Try.prog 61 (one (.c (tbO t)) :: _) _
      unfold GoodE
      exact goodBy2L ESmallT_ok Try.func61 rfl (Nat.le_of_ble_eq_true rfl) (by decide) (wSmallT n t a b c p q s hi)
    · cases h
  · cases h
@[simp] theorem sSmallT {t : Tbl} {a b c p q s : Nat} (h : SmallT t ((a : Int), (b : Int), (c : Int), (p : Int), (q : Int), (s : Int))) : specSmallT [⟨.one, [.c (tbO t)]⟩, ⟨.agg, [.c (.sc (.int .i64 a)), .c (.sc (.int .i64 b)), .c (.sc (.int .i64 c)), .c (.sc (.int .i64 p)), .c (.sc (.int .i64 q)), .c (.sc (.int .i64 s))]⟩] = some (lentSV (tbO (smallT t a b c p q s).1) (bv (smallT t a b c p q s).2)) := by
  unfold specSmallT
  simp only [asTbO_tb]
  exact whenC_pos _ h
@[simp] theorem sSmallTF {l : List (Cell Unit)} {y : SV Unit} : specSmallT [⟨.one, [.c (.bx false () l)]⟩, y] = none := by
  unfold specSmallT
  simp only [asTbO_fro]
@[simp] theorem callSmallT {E : Env} {σ : St Unit} {t : Nat} {l : List Operand} : effCall Try.prog E ΩU σ t 61 l = callO E 61 t (argsOf Try.prog ΩU σ [70, 62] l) := eff_call Try.func61 Try.params61
@[simp] theorem lendSmallT {E : Env} {σ : St Unit} {t s : Nat} {l : List Operand} : effLend Try.prog E ΩU σ t 61 (.tmp s :: l) = lendO E σ t s 61 [62] l := eff_lend Try.func61 Try.params61
end Go.Proofs.Ytnmocjhpbobahaa.L
namespace Go.Proofs.Ytnmocjhpbobahaa.L
open Go Go.RowKit
set_option maxRecDepth 100000
set_option maxHeartbeats 4000000
attribute [local simp] lendO
noncomputable def doT (t : Tbl) (e : Cu) : Tbl × Bool :=
  if e.2.2.2.1 = -1 then wideT t e.1.toNat e.2.1.toNat e.2.2.1.toNat e.2.2.2.2.1.toNat e.2.2.2.2.2.toNat
  else if e.2.2.2.2.1 = -1 then wideT t e.2.1.toNat e.1.toNat e.2.2.1.toNat e.2.2.2.1.toNat e.2.2.2.2.2.toNat
  else if e.2.2.2.2.2 = -1 then wideT t e.2.2.1.toNat e.1.toNat e.2.1.toNat e.2.2.2.1.toNat e.2.2.2.2.1.toNat
  else smallT t e.1.toNat e.2.1.toNat e.2.2.1.toNat e.2.2.2.1.toNat e.2.2.2.2.1.toNat e.2.2.2.2.2.toNat
theorem doT_0 (t : Tbl) (a b c q s : Nat) : doT t ((a : Int), (b : Int), (c : Int), -1, (q : Int), (s : Int)) = wideT t a b c q s := by
  unfold doT; simp only [if_true, Int.toNat_natCast]
theorem doT_1 (t : Tbl) (a b c p s : Nat) : doT t ((a : Int), (b : Int), (c : Int), (p : Int), -1, (s : Int)) = wideT t b a c p s := by
  unfold doT; rw [if_neg (show ¬ (p : Int) = -1 by omega)]; simp only [if_true, Int.toNat_natCast]
theorem doT_2 (t : Tbl) (a b c p q : Nat) : doT t ((a : Int), (b : Int), (c : Int), (p : Int), (q : Int), -1) = wideT t c a b p q := by
  unfold doT; rw [if_neg (show ¬ (p : Int) = -1 by omega), if_neg (show ¬ (q : Int) = -1 by omega)]; simp only [if_true, Int.toNat_natCast]
theorem doT_3 (t : Tbl) (a b c p q s : Nat) : doT t ((a : Int), (b : Int), (c : Int), (p : Int), (q : Int), (s : Int)) = smallT t a b c p q s := by
  unfold doT; rw [if_neg (show ¬ (p : Int) = -1 by omega), if_neg (show ¬ (q : Int) = -1 by omega), if_neg (show ¬ (s : Int) = -1 by omega)]; simp only [Int.toNat_natCast]
noncomputable abbrev EDoT : Env := ext (ext env0 60 specWideT) 61 specSmallT
noncomputable abbrev regD : Reg := regOf Try.prog EDoT (53 + zeroN) u36
theorem wDoT0 (t : Tbl) (a b c q s : Nat) (h : WideT t a b c q s) : ∃ k, Try.f36.body = some k ∧ RP regD k (argsSt 0 [smO t, cu6 ((a : Int), (b : Int), (c : Int), -1, (q : Int), (s : Int))]) (endsAsL Try.prog Try.f36 (tbO t) (lentSV (tbO (wideT t a b c q s).1) (bv (wideT t a b c q s).2))) := by
  refine ⟨_, rfl, ?_⟩
  generalize hQ : endsAsL Try.prog Try.f36 (tbO t) (lentSV (tbO (wideT t a b c q s).1) (bv (wideT t a b c q s).2)) = Q
  simp only [argsSt]
  refine go ?_
  show Q .ret _
  refine finL_ret hQ rfl rfl rfl
theorem wDoT1 (t : Tbl) (a b c p s : Nat) (h : WideT t b a c p s) : ∃ k, Try.f36.body = some k ∧ RP regD k (argsSt 0 [smO t, cu6 ((a : Int), (b : Int), (c : Int), (p : Int), -1, (s : Int))]) (endsAsL Try.prog Try.f36 (tbO t) (lentSV (tbO (wideT t b a c p s).1) (bv (wideT t b a c p s).2))) := by
  refine ⟨_, rfl, ?_⟩
  generalize hQ : endsAsL Try.prog Try.f36 (tbO t) (lentSV (tbO (wideT t b a c p s).1) (bv (wideT t b a c p s).2)) = Q
  simp only [argsSt]
  have e1 : ¬ (p : Int) = -1 := by omega
  refine go ?_
  show Q .ret _
  refine finL_ret hQ rfl rfl rfl
theorem wDoT2 (t : Tbl) (a b c p q : Nat) (h : WideT t c a b p q) : ∃ k, Try.f36.body = some k ∧ RP regD k (argsSt 0 [smO t, cu6 ((a : Int), (b : Int), (c : Int), (p : Int), (q : Int), -1)]) (endsAsL Try.prog Try.f36 (tbO t) (lentSV (tbO (wideT t c a b p q).1) (bv (wideT t c a b p q).2))) := by
  refine ⟨_, rfl, ?_⟩
  generalize hQ : endsAsL Try.prog Try.f36 (tbO t) (lentSV (tbO (wideT t c a b p q).1) (bv (wideT t c a b p q).2)) = Q
  simp only [argsSt]
  have e1 : ¬ (p : Int) = -1 := by omega
  have e2 : ¬ (q : Int) = -1 := by omega
  refine go ?_
  show Q .ret _
  refine finL_ret hQ rfl rfl rfl
theorem wDoT3 (t : Tbl) (a b c p q s : Nat) (h : SmallT t ((a : Int), (b : Int), (c : Int), (p : Int), (q : Int), (s : Int))) : ∃ k, Try.f36.body = some k ∧ RP regD k (argsSt 0 [smO t, cu6 ((a : Int), (b : Int), (c : Int), (p : Int), (q : Int), (s : Int))]) (endsAsL Try.prog Try.f36 (tbO t) (lentSV (tbO (smallT t a b c p q s).1) (bv (smallT t a b c p q s).2))) := by
  refine ⟨_, rfl, ?_⟩
  generalize hQ : endsAsL Try.prog Try.f36 (tbO t) (lentSV (tbO (smallT t a b c p q s).1) (bv (smallT t a b c p q s).2)) = Q
  simp only [argsSt]
  have e1 : ¬ (p : Int) = -1 := by omega
  have e2 : ¬ (q : Int) = -1 := by omega
  have e3 : ¬ (s : Int) = -1 := by omega
  refine go ?_
  show Q .ret _
  refine finL_ret hQ rfl rfl rfl
theorem EDoT_ok : EnvOk Try.prog EDoT := ext_ok (ext_ok env0_ok okWideT) okSmallT
def DoTOk (t : Tbl) (e : Cu) : Prop := ∃ a b c p q s : Nat, (e = ((a : Int), (b : Int), (c : Int), -1, (q : Int), (s : Int)) ∧ WideT t a b c q s) ∨ (e = ((a : Int), (b : Int), (c : Int), (p : Int), -1, (s : Int)) ∧ WideT t b a c p s) ∨ (e = ((a : Int), (b : Int), (c : Int), (p : Int), (q : Int), -1) ∧ WideT t c a b p q) ∨ (e = ((a : Int), (b : Int), (c : Int), (p : Int), (q : Int), (s : Int)) ∧ SmallT t e)
noncomputable def specDoT : Spec := fun us => match us with
  | [x, y] => match asTbO x, asCu y with
    | some t, some e => whenC (DoTOk t e) (lentSV (tbO (doT t e).1) (bv (doT t e).2))
    | _, _ => none
  | _ => none
theorem okDoT : SpecOk 36 specDoT := by
  intro us R h
  unfold specDoT at h
  split at h
  · split at h
    · next x y _ t e h1 h2 =>
      obtain ⟨⟨a, b, c, p, q, s, hk⟩, rfl⟩ := whenC_eq h
      rw [asTbO_eq h1, asCu_eq h2]
      show GoodE Try.prog 36 (one (.c (tbO t)) :: _) _
      unfold GoodE
      rcases hk with ⟨rfl, w⟩ | ⟨rfl, w⟩ | ⟨rfl, w⟩ | ⟨rfl, w⟩
      · rw [doT_0]
        exact goodBy2L EDoT_ok Try.func36 rfl (Nat.le_of_ble_eq_true rfl) (by decide) (wDoT0 t a b c q s w)
      · rw [doT_1]
        exact goodBy2L EDoT_ok Try.func36 rfl (Nat.le_of_ble_eq_true rfl) (by decide) (wDoT1 t a b c p s w)
      · rw [doT_2]
        exact goodBy2L EDoT_ok Try.func36 rfl (Nat.le_of_ble_eq_true rfl) (by decide) (wDoT2 t a b c p q w)
      · rw [doT_3]
        exact goodBy2L EDoT_ok Try.func36 rfl (Nat.le_of_ble_eq_true rfl) (by decide) (wDoT3 t a b c p q s w)
    · cases h
  · cases h
@[simp] theorem sDoT {t : Tbl} {a b c p q s : Int} (h : DoTOk t (a, b, c, p, q, s)) : specDoT [⟨.one, [.c (tbO t)]⟩, ⟨.agg, [.c (.sc (.int .i64 a)), .c (.sc (.int .i64 b)), .c (.sc (.int .i64 c)), .c (.sc (.int .i64 p)), .c (.sc (.int .i64 q)), .c (.sc (.int .i64 s))]⟩] = some (lentSV (tbO (doT t (a, b, c, p, q, s)).1) (bv (doT t (a, b, c, p, q, s)).2)) := by
  unfold specDoT
  simp only [asTbO_tb]
  exact whenC_pos _ h
@[simp] theorem sDoTF {l : List (Cell Unit)} {y : SV Unit} : specDoT [⟨.one, [.c (.bx false () l)]⟩, y] = none := by
  unfold specDoT
  simp only [asTbO_fro]
@[simp] theorem callDoT {E : Env} {σ : St Unit} {t : Nat} {l : List Operand} : effCall Try.prog E ΩU σ t 36 l = callO E 36 t (argsOf Try.prog ΩU σ [70, 62] l) := eff_call Try.func36 Try.params36
@[simp] theorem lendDoT {E : Env} {σ : St Unit} {t s : Nat} {l : List Operand} : effLend Try.prog E ΩU σ t 36 (.tmp s :: l) = lendO E σ t s 36 [62] l := eff_lend Try.func36 Try.params36
/-! ### a cut keeps the agreement -/
theorem Agr.do {n : Nat} {r : Rst} {t : Tbl} (h : Agr n r t) (hn : n ≤ 1000000) {a b c : Nat} {p q s : Int} (k : CutI n r a b c p q s) : DoTOk t ((a : Int), (b : Int), (c : Int), p, q, s) ∧ (doT t ((a : Int), (b : Int), (c : Int), p, q, s)).2 = (doF r ((a : Int), (b : Int), (c : Int), p, q, s)).2 ∧ Agr n (doF r ((a : Int), (b : Int), (c : Int), p, q, s)).1 (doT t ((a : Int), (b : Int), (c : Int), p, q, s)).1 := by
  rcases cut_kinds h.rst k with ⟨p', q', s', rfl, rfl, rfl, w⟩ | ⟨q', s', rfl, rfl, rfl, w⟩ | ⟨p', s', rfl, rfl, rfl, w⟩ | ⟨p', q', rfl, rfl, rfl, w⟩
  · rw [doF_small, doT_3]
    have h1 := w.ab; have h2 := w.bc; have h3 := w.cn
    refine ⟨⟨a, b, c, p', q', s', .inr (.inr (.inr ⟨rfl, n, a, b, c, p', q', s', ⟨h.tb, hn, by omega, by omega, h3, w.pn, w.qn, w.sn, fun e => w.qa.2.1 e.symm, fun e => w.sa.2.1 e.symm⟩, rfl⟩))⟩, h.small w⟩
  · rw [doF_wide' r _ _ _ _ _ _ (by omega), wideC_0, doT_0]
    exact ⟨⟨a, b, c, 0, q', s', .inl ⟨rfl, n, h.tb, hn, w.un, w.xn, w.yn, w.sn, w.tn, fun e => w.tx e.symm⟩⟩, h.wide w⟩
  · rw [doF_wide' r _ _ _ _ _ _ (by omega), wideC_1, doT_1]
    exact ⟨⟨a, b, c, p', 0, s', .inr (.inl ⟨rfl, n, h.tb, hn, w.un, w.xn, w.yn, w.sn, w.tn, fun e => w.tx e.symm⟩)⟩, h.wide w⟩
  · rw [doF_wide' r _ _ _ _ _ _ (by omega), wideC_2, doT_2]
    exact ⟨⟨a, b, c, p', q', 0, .inr (.inr (.inl ⟨rfl, n, h.tb, hn, w.un, w.xn, w.yn, w.sn, w.tn, fun e => w.tx e.symm⟩))⟩, h.wide w⟩
theorem doT_no {t : Tbl} {e : Cu} (hf : (doT t e).2 = false) : (doT t e).1 = t := by
  have wf : ∀ u x y s w, (wideT t u x y s w).2 = false → (wideT t u x y s w).1 = t := by
    intro u x y s w e
    unfold wideT at e ⊢
    split
    · rfl
    · next hn => rw [if_neg hn] at e; cases e
  have sf : ∀ a b c p q s, (smallT t a b c p q s).2 = false → (smallT t a b c p q s).1 = t := by
    intro a b c p q s e
    unfold smallT at e ⊢
    split
    · rfl
    · next hn => rw [if_neg hn] at e; cases e
  unfold doT at hf ⊢
  split
  · next h => rw [if_pos h] at hf; exact wf _ _ _ _ _ hf
  · next h =>
    rw [if_neg h] at hf
    split
    · next h' => rw [if_pos h'] at hf; exact wf _ _ _ _ _ hf
    · next h' =>
      rw [if_neg h'] at hf
      split
      · next h2 => rw [if_pos h2] at hf; exact wf _ _ _ _ _ hf
      · next h2 => rw [if_neg h2] at hf; exact sf _ _ _ _ _ _ hf
theorem Agr.cut {n : Nat} {r : Rst} {t : Tbl} (h : Agr n r t) {e : Cu} (hk : isK t e = true) : ∃ (a b c : Nat) (p q s : Int), e = ((a : Int), (b : Int), (c : Int), p, q, s) ∧ CutI n r a b c p q s ∧ cutF r a b c = (e, true) := by
  obtain ⟨h1, h2⟩ := (h.is e).1 hk
  obtain ⟨A, B, C, p, q, s⟩ := e
  unfold okT at h1
  simp only at h1 h2
  obtain ⟨a, rfl⟩ : ∃ a : Nat, A = (a : Int) := ⟨A.toNat, by omega⟩
  obtain ⟨b, rfl⟩ : ∃ b : Nat, B = (b : Int) := ⟨B.toNat, by omega⟩
  obtain ⟨c, rfl⟩ : ∃ c : Nat, C = (c : Int) := ⟨C.toNat, by omega⟩
  simp only [Int.toNat_natCast] at h2
  obtain ⟨p', q', s', he, k⟩ := cutI h.rst.toRstS (by omega) (by omega) (by omega : c < n) h2
  simp only [Prod.mk.injEq, true_and] at he
  obtain ⟨rfl, rfl, rfl⟩ := he
  exact ⟨a, b, c, p, q, s, rfl, k, h2⟩
end Go.Proofs.Ytnmocjhpbobahaa.L
