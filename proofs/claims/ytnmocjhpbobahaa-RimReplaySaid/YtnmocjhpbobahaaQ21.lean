/- U78: Rest.joins of the document's table. U60: Rest.wide of the document's table. -/
import Derived.Test.YtnmocjhpbobahaaQ13
set_option linter.unusedVariables false
set_option linter.unusedSimpArgs false
set_option linter.unnecessarySimpa false
namespace Go.Proofs.Ytnmocjhpbobahaa.L
open Go Go.RowKit
set_option maxRecDepth 100000
set_option maxHeartbeats 4000000
def Tbl.join (t : Tbl) (a b : Nat) : Tbl := ⟨t.inn, (t.adj.set a ((nthT t.adj a).set b true)).set b ((nthT (t.adj.set a ((nthT t.adj a).set b true)) b).set a true), t.mark⟩
theorem wJoinT (n : Nat) (t : Tbl) (ht : TbOk n t) (hn : n ≤ 1000000) (a b : Nat) (ha : a < n) (hb : b < n) (hab : a ≠ b) : ∃ c, Try.f78.body = some c ∧ RP (regOf Try.prog env0 (24 + zeroN) u78) c (argsSt 0 [one (.c (tbO t)), iv a, iv b]) (endsAsL Try.prog Try.f78 (tbO t) (lentSV (tbO (t.join a b)) (resSV []))) := by
  refine ⟨_, rfl, ?_⟩
  generalize hQ : endsAsL Try.prog Try.f78 (tbO t) (lentSV (tbO (t.join a b)) (resSV [])) = Q
  simp only [argsSt]
  have c2 := ht.adj
  have c3 := ht.row a ha
  have c4 := ht.row b hb
  have a1 : a < t.adj.length := by omega
  have b1 : b < (nthT t.adj a).length := by omega
  have e1 : nthT (t.adj.set a ((nthT t.adj a).set b true)) b = nthT t.adj b := by rw [nthT_set a1, if_neg hab]
  have b2 : b < (t.adj.set a ((nthT t.adj a).set b true)).length := by rw [List.length_set]; omega
  have a2 : a < (nthT (t.adj.set a ((nthT t.adj a).set b true)) b).length := by rw [e1]; omega
  refine go ?_
  show Q .normal _
  refine finL_norm hQ rfl rfl rfl
@[simp] theorem lentT_own {b : Tbl} : (lentSV (tbO b) (resSV [])).ownAll = true := by
  simp [SV.ownAll, SC.ownAll]
@[simp] theorem lendEff_tb {t s : Nat} {p : List Nat} {v : SV Unit} {a b : Tbl} : lendEff t s p (tbO a) v (lentSV (tbO b) (resSV [])) = some ⟨[(s, v.setP p (tbO b)), (t, resSV [])], (t, []) :: (s, p ++ [0]) :: (s, p ++ [1]) :: (s, p ++ [2]) :: [], []⟩ := rfl
@[simp] theorem lentT1_cs {y x : Cell Unit} : (lentSV y ⟨.one, [.c x]⟩).cs = [.c y, .c x] := rfl
@[simp] theorem lentT1_own {b : Tbl} {x : Value} : (lentSV (tbO b) ⟨.one, [.c (.sc x)]⟩).ownAll = true := by
  simp [SV.ownAll, SC.ownAll]
@[simp] theorem lendEff_tb1 {t s : Nat} {p : List Nat} {v : SV Unit} {a b : Tbl} {x : Value} : lendEff t s p (tbO a) v (lentSV (tbO b) ⟨.one, [.c (.sc x)]⟩) = some ⟨[(s, v.setP p (tbO b)), (t, ⟨.one, [.c (.sc x)]⟩)], (t, []) :: (s, p ++ [0]) :: (s, p ++ [1]) :: (s, p ++ [2]) :: [], []⟩ := rfl
theorem asTbO_fro {l : List (Cell Unit)} : asTbO (⟨.one, [.c (.bx false () l)]⟩ : SV Unit) = none := by unfold asTbO; split <;> simp_all
def JoinT (t : Tbl) (a b : Nat) : Prop := ∃ n : Nat, TbOk n t ∧ n ≤ 1000000 ∧ a < n ∧ b < n ∧ a ≠ b
noncomputable def specJoinT : Spec := fun us => match us with
  | [x, y, z] => match asTbO x, asInt y, asInt z with
    | some t, some a, some b => whenC (0 ≤ a ∧ 0 ≤ b ∧ JoinT t a.toNat b.toNat) (lentSV (tbO (t.join a.toNat b.toNat)) (resSV []))
    | _, _, _ => none
  | _ => none
theorem okJoinT : SpecOk 78 specJoinT := by
  intro us R h
  unfold specJoinT at h
  split at h
  · split at h
    · next x y z _ t a b h1 h2 h3 =>
      obtain ⟨⟨ha, hb, n, ht, hn, han, hbn, hab⟩, rfl⟩ := whenC_eq h
      rw [asTbO_eq h1, asInt_eq h2, asInt_eq h3]
      have hw := wJoinT n t ht hn a.toNat b.toNat han hbn hab
      rw [show (a.toNat : Int) = a by omega, show (b.toNat : Int) = b by omega] at hw
      show GoodE Try.prog 78 [one (.c (tbO t)), iv a, iv b] _
      unfold GoodE
      exact goodBy2L env0_ok Try.func78 rfl (Nat.le_of_ble_eq_true rfl) (by decide) hw
    · cases h
  · cases h
@[simp] theorem sJoinT {t : Tbl} {a b : Nat} (h : JoinT t a b) : specJoinT [⟨.one, [.c (tbO t)]⟩, iv a, iv b] = some (lentSV (tbO (t.join a b)) (resSV [])) := by
  unfold specJoinT
  simp only [asTbO_tb, asInt_iv]
  exact whenC_pos _ ⟨by omega, by omega, h⟩
@[simp] theorem sJoinTF {l : List (Cell Unit)} {y z : SV Unit} : specJoinT [⟨.one, [.c (.bx false () l)]⟩, y, z] = none := by
  unfold specJoinT
  simp only [asTbO_fro]
@[simp] theorem callJoinT {E : Env} {σ : St Unit} {t : Nat} {l : List Operand} : effCall Try.prog E ΩU σ t 78 l = callO E 78 t (argsOf Try.prog ΩU σ [70, 3, 3] l) := eff_call Try.func78 Try.params78
@[simp] theorem lendJoinT {E : Env} {σ : St Unit} {t s : Nat} {l : List Operand} : effLend Try.prog E ΩU σ t 78 (.tmp s :: l) = lendO E σ t s 78 [3, 3] l := eff_lend Try.func78 Try.params78
/-- Who is whose neighbour behind a join. -/
theorem join_at {n : Nat} {t : Tbl} (ht : TbOk n t) {a b : Nat} (ha : a < n) (hb : b < n) (hab : a ≠ b) (v x : Nat) (hv : v < n) (hx : x < n) : nthB (nthT (t.join a b).adj v) x = if (v = a ∧ x = b) ∨ (v = b ∧ x = a) then true else nthB (nthT t.adj v) x := by
  have nb : ∀ (l : List Bool) (i j : Nat) (c : Bool), i < l.length → nthB (l.set i c) j = if i = j then c else nthB l j := by
    intro l i j c hi
    unfold nthB
    simp only [List.getD_eq_getElem?_getD, List.getElem?_set]
    split
    · next h => subst h; simp [hi]
    · rfl
  have c2 := ht.adj
  have c3 := ht.row a ha
  have c4 := ht.row b hb
  unfold Tbl.join
  simp only
  rw [nthT_set (by rw [List.length_set]; omega), nthT_set (by omega), nthT_set (by omega), if_neg hab]
  by_cases h1 : b = v
  · subst h1
    rw [if_pos rfl, nb _ _ _ _ (by omega)]
    by_cases h2 : a = x
    · subst h2; rw [if_pos rfl, if_pos (.inr ⟨rfl, rfl⟩)]
    · rw [if_neg h2, if_neg (by rintro (⟨e, _⟩ | ⟨_, e⟩); exact hab e.symm; exact h2 e.symm)]
  · rw [if_neg h1]
    by_cases h3 : a = v
    · subst h3
      rw [if_pos rfl, nb _ _ _ _ (by omega)]
      by_cases h2 : b = x
      · subst h2; rw [if_pos rfl, if_pos (.inl ⟨rfl, rfl⟩)]
      · rw [if_neg h2, if_neg (by rintro (⟨_, e⟩ | ⟨e, _⟩); exact h2 e.symm; exact hab e)]
    · rw [if_neg h3, if_neg (by rintro (⟨e, _⟩ | ⟨e, _⟩); exact h3 e.symm; exact h1 e.symm)]
theorem TbOk.join {n : Nat} {t : Tbl} (ht : TbOk n t) {a b : Nat} (ha : a < n) (hb : b < n) : TbOk n (t.join a b) := by
  have c2 := ht.adj
  refine ⟨ht.inn, by unfold Tbl.join; simp only [List.length_set]; exact c2, fun v hv => ?_, ht.mark⟩
  unfold Tbl.join
  simp only
  rw [nthT_set (by rw [List.length_set]; omega), nthT_set (by omega), nthT_set (by omega)]
  have r1 := ht.row a ha
  have r2 := ht.row b hb
  have r3 := ht.row v hv
  split
  · rw [List.length_set]; split
    · rw [List.length_set]; exact r1
    · exact r2
  · split
    · rw [List.length_set]; exact r1
    · exact r3
end Go.Proofs.Ytnmocjhpbobahaa.L
namespace Go.Proofs.Ytnmocjhpbobahaa.L
open Go Go.RowKit
set_option maxRecDepth 100000
set_option maxHeartbeats 4000000
theorem innT_t {t : Tbl} {v : Nat} (h : innT t v = true) : innT t v = true := h
theorem innT_f {t : Tbl} {v : Nat} (h : innT t v = false) : innT t v = false := h
attribute [local simp] lendO innT_t innT_f
def Tbl.off (t : Tbl) (y : Nat) : Tbl := ⟨t.inn.set y false, t.adj, t.mark⟩
def wideT (t : Tbl) (u x y s w : Nat) : Tbl × Bool :=
  if s = w ∨ innT t x = true ∨ innT t y = true ∨ innT t s = true ∨ innT t w = true then (t, false)
  else (⟨((t.off y).join x w).inn, ((t.off y).join x w).adj, (((((t.off y).join x w).mark.set u 2).set x 1).set s 1).set w 1⟩, true)
theorem wideT_no {t : Tbl} {u x y s w : Nat} (h : s = w ∨ innT t x = true ∨ innT t y = true ∨ innT t s = true ∨ innT t w = true) : wideT t u x y s w = (t, false) := by unfold wideT; rw [if_pos h]
theorem TbOk.off {n : Nat} {t : Tbl} (h : TbOk n t) (y : Nat) : TbOk n (t.off y) := ⟨by unfold Tbl.off; simp only [List.length_set]; exact h.inn, h.adj, h.row, h.mark⟩
noncomputable abbrev EWideT : Env := ext (ext env0 77 specInT) 78 specJoinT
theorem wWideT (n : Nat) (t : Tbl) (ht : TbOk n t) (hn : n ≤ 1000000) (u x y s w : Nat) (hu : u < n) (hx : x < n) (hy : y < n) (hs : s < n) (hw : w < n) (hxw : x ≠ w) : ∃ c, Try.f60.body = some c ∧ RP (regOf Try.prog EWideT (70 + zeroN) u60) c (argsSt 0 [one (.c (tbO t)), iv u, iv x, iv y, iv s, iv w]) (endsAsL Try.prog Try.f60 (tbO t) (lentSV (tbO (wideT t u x y s w).1) (bv (wideT t u x y s w).2))) := by
  refine ⟨_, rfl, ?_⟩
  generalize hQ : endsAsL Try.prog Try.f60 (tbO t) (lentSV (tbO (wideT t u x y s w).1) (bv (wideT t u x y s w).2)) = Q
  simp only [argsSt]
  have c1 := ht.inn
  have c2 := ht.mark
  have y1 : y < t.inn.length := by omega
  have kx : TbHas t x := ⟨n, ht, hn, hx⟩
  have ky : TbHas t y := ⟨n, ht, hn, hy⟩
  have ks : TbHas t s := ⟨n, ht, hn, hs⟩
  have kw : TbHas t w := ⟨n, ht, hn, hw⟩
  by_cases h0 : s = w
  · subst h0
    rw [wideT_no (.inl rfl)] at hQ
    refine go ?_
    show Q .ret _
    refine finL_ret hQ rfl rfl rfl
  have h0' : ¬ (s : Int) = w := by omega
  cases i1 : innT t x with
  | true =>
    rw [wideT_no (.inr (.inl i1))] at hQ
    refine go ?_
    show Q .ret _
    refine finL_ret hQ rfl rfl rfl
  | false =>
  cases i2 : innT t y with
  | true =>
    rw [wideT_no (.inr (.inr (.inl i2)))] at hQ
    refine go ?_
    show Q .ret _
    refine finL_ret hQ rfl rfl rfl
  | false =>
  cases i3 : innT t s with
  | true =>
    rw [wideT_no (.inr (.inr (.inr (.inl i3))))] at hQ
    refine go ?_
    show Q .ret _
    refine finL_ret hQ rfl rfl rfl
  | false =>
  cases i4 : innT t w with
  | true =>
    rw [wideT_no (.inr (.inr (.inr (.inr i4))))] at hQ
    refine go ?_
    show Q .ret _
    refine finL_ret hQ rfl rfl rfl
  | false =>
  have e : wideT t u x y s w = (⟨((t.off y).join x w).inn, ((t.off y).join x w).adj, (((((t.off y).join x w).mark.set u 2).set x 1).set s 1).set w 1⟩, true) := by
    unfold wideT; rw [if_neg (by rintro (h | h | h | h | h) <;> simp_all)]
  rw [e] at hQ
  have jo : JoinT (t.off y) x w := ⟨n, ht.off y, hn, hx, hw, hxw⟩
  have ml : ((t.off y).join x w).mark.length = n := c2
  refine go ?_
  rw [show (Cell.bx true () [Cell.sl true 1 () (BL (t.inn.set y false)), Cell.sl true 1 () (OT t.adj), Cell.sl true 1 () (IL t.mark)] : Cell Unit) = tbO (t.off y) from rfl]
  refine go ?_
  show Q .ret _
  refine finL_ret hQ rfl rfl rfl
def WideT (t : Tbl) (u x y s w : Nat) : Prop := ∃ n : Nat, TbOk n t ∧ n ≤ 1000000 ∧ u < n ∧ x < n ∧ y < n ∧ s < n ∧ w < n ∧ x ≠ w
theorem EWideT_ok : EnvOk Try.prog EWideT := ext_ok (ext_ok env0_ok okInT) okJoinT
noncomputable def specWideT : Spec := fun us => match us with
  | [x0, x1, x2, x3, x4, x5] => match asTbO x0, asInt x1, asInt x2, asInt x3, asInt x4, asInt x5 with
    | some t, some u, some x, some y, some s, some w => whenC ((0 ≤ u ∧ 0 ≤ x ∧ 0 ≤ y ∧ 0 ≤ s ∧ 0 ≤ w) ∧ WideT t u.toNat x.toNat y.toNat s.toNat w.toNat) (lentSV (tbO (wideT t u.toNat x.toNat y.toNat s.toNat w.toNat).1) (bv (wideT t u.toNat x.toNat y.toNat s.toNat w.toNat).2))
    | _, _, _, _, _, _ => none
  | _ => none
theorem okWideT : SpecOk 60 specWideT := by
  intro us R h
  unfold specWideT at h
  split at h
  · split at h
    · next t u x y s w h0 h1 h2 h3 h4 h5 =>
      obtain ⟨⟨⟨g1, g2, g3, g4, g5⟩, n, ht, hn, k1, k2, k3, k4, k5, k6⟩, rfl⟩ := whenC_eq h
      rw [asTbO_eq h0, asInt_eq h1, asInt_eq h2, asInt_eq h3, asInt_eq h4, asInt_eq h5]
      have hw := wWideT n t ht hn _ _ _ _ _ k1 k2 k3 k4 k5 k6
      rw [show (u.toNat : Int) = u by omega, show (x.toNat : Int) = x by omega, show (y.toNat : Int) = y by omega, show (s.toNat : Int) = s by omega, show (w.toNat : Int) = w by omega] at hw
      show GoodE Try.prog 60 [one (.c (tbO t)), iv u, iv x, iv y, iv s, iv w] _
      unfold GoodE
      exact goodBy2L EWideT_ok Try.func60 rfl (Nat.le_of_ble_eq_true rfl) (by decide) hw
    · cases h
  · cases h
@[simp] theorem sWideT {t : Tbl} {u x y s w : Nat} (h : WideT t u x y s w) : specWideT [⟨.one, [.c (tbO t)]⟩, iv u, iv x, iv y, iv s, iv w] = some (lentSV (tbO (wideT t u x y s w).1) (bv (wideT t u x y s w).2)) := by
  unfold specWideT
  simp only [asTbO_tb, asInt_iv]
  exact whenC_pos _ ⟨by omega, h⟩
@[simp] theorem sWideTF {l : List (Cell Unit)} {a b c d e : SV Unit} : specWideT [⟨.one, [.c (.bx false () l)]⟩, a, b, c, d, e] = none := by
  unfold specWideT
  simp only [asTbO_fro]
@[simp] theorem callWideT {E : Env} {σ : St Unit} {t : Nat} {l : List Operand} : effCall Try.prog E ΩU σ t 60 l = callO E 60 t (argsOf Try.prog ΩU σ [70, 3, 3, 3, 3, 3] l) := eff_call Try.func60 Try.params60
@[simp] theorem lendWideT {E : Env} {σ : St Unit} {t s : Nat} {l : List Operand} : effLend Try.prog E ΩU σ t 60 (.tmp s :: l) = lendO E σ t s 60 [3, 3, 3, 3, 3] l := eff_lend Try.func60 Try.params60
end Go.Proofs.Ytnmocjhpbobahaa.L
