/- U39: carcanetref20.After. U33: Rest.Least of the document's table. -/
import Derived.Test.YtnmocjhpbobahaaZ31
import Derived.Test.YtnmocjhpbobahaaZ35
import Derived.Test.YtnmocjhpbobahaaZ39
import Derived.Test.YtnmocjhpbobahaaZ26
set_option linter.unusedVariables false
set_option linter.unusedSimpArgs false
set_option linter.unnecessarySimpa false
namespace Go.Proofs.Ytnmocjhpbobahaa.L
open Go Go.RowKit
set_option maxRecDepth 100000
set_option maxHeartbeats 4000000
attribute [local simp] lendO
/-- One cut that is told is done. -/
noncomputable def stepT (t : Tbl) (e : Cu) : Option Tbl := if isK t e = true then (if (doT t e).2 = true then some (doT t e).1 else none) else none
noncomputable def replT : Tbl → List Cu → Tbl × Nat
  | t, [] => (t, 0)
  | t, e :: l => match stepT t e with
    | some t' => ((replT t' l).1, (replT t' l).2 + 1)
    | none => (t, 0)
theorem Agr.step {n : Nat} {r : Rst} {t : Tbl} (h : Agr n r t) (hn : n ≤ 1000000) (e : Cu) : (∃ t' r', stepT t e = some t' ∧ stepF n r e = some r' ∧ Agr n r' t') ∨ (stepT t e = none ∧ stepF n r e = none) := by
  unfold stepT
  cases hk : isK t e with
  | true =>
    obtain ⟨a, b, c, p, q, s, rfl, k, hc⟩ := h.cut hk
    obtain ⟨_, d1, d2⟩ := h.do hn k
    have hok : okAt n ((a : Int), (b : Int), (c : Int), p, q, s) := by have := k.ab; have := k.bc; have := k.cn; unfold okAt; simp only; omega
    have hstep : stepF n r ((a : Int), (b : Int), (c : Int), p, q, s) = if (doF r ((a : Int), (b : Int), (c : Int), p, q, s)).2 = true then some (doF r ((a : Int), (b : Int), (c : Int), p, q, s)).1 else none := by
      unfold stepF
      simp only [Int.toNat_natCast, hc, hok, true_and]
      rw [show sameO ((a : Int), (b : Int), (c : Int), p, q, s) ((a : Int), (b : Int), (c : Int), p, q, s) = true from same3_iff.2 ⟨rfl, rfl, rfl⟩]
      simp
    rw [if_pos rfl, hstep, d1]
    cases hd : (doF r ((a : Int), (b : Int), (c : Int), p, q, s)).2 with
    | true => exact .inl ⟨_, _, if_pos rfl, if_pos rfl, d2⟩
    | false => exact .inr ⟨if_neg Bool.noConfusion, if_neg Bool.noConfusion⟩
  | false =>
    right
    refine ⟨if_neg Bool.noConfusion, ?_⟩
    unfold stepF
    rw [if_neg]
    rintro ⟨h1, h2, h3, h4⟩
    have hc : cutF r e.1.toNat e.2.1.toNat e.2.2.1.toNat = (e, true) := by
      refine Prod.ext ?_ h2
      obtain ⟨A, B, C, P, Q', S⟩ := e
      have h1' := h1
      unfold okAt at h1'
      simp only at h1' h2 h3 ⊢
      obtain ⟨a, rfl⟩ : ∃ a : Nat, A = (a : Int) := ⟨A.toNat, by omega⟩
      obtain ⟨b, rfl⟩ : ∃ b : Nat, B = (b : Int) := ⟨B.toNat, by omega⟩
      obtain ⟨c, rfl⟩ : ∃ c : Nat, C = (c : Int) := ⟨C.toNat, by omega⟩
      simp only [Int.toNat_natCast] at h2 h3 ⊢
      obtain ⟨p, q, s, he, k⟩ := cutI h.rst.toRstS (show a < b by omega) (show b < c by omega) (by omega : c < n) (e := (cutF r a b c).1) (Prod.ext rfl h2)
      rw [he] at h3 ⊢
      obtain ⟨rfl, rfl, rfl⟩ := same3_iff.1 h3
      rfl
    have := (h.is e).2 ⟨h1, hc⟩
    rw [hk] at this
    cases this
theorem Agr.repl {n : Nat} (hn : n ≤ 1000000) : ∀ {l : List Cu} {r : Rst} {t : Tbl}, Agr n r t → Agr n (replF n r l).1 (replT t l).1 ∧ (replT t l).2 = (replF n r l).2
  | [], r, t, h => ⟨h, rfl⟩
  | e :: l, r, t, h => by
    unfold replF replT
    rcases h.step hn e with ⟨t', r', h1, h2, h3⟩ | ⟨h1, h2⟩
    · rw [h1, h2]
      have := Agr.repl hn (l := l) h3
      exact ⟨this.1, by simp only [this.2]⟩
    · rw [h1, h2]
      exact ⟨h, rfl⟩
abbrev afB (t : Tbl) (k : Nat) : SV Unit := ⟨.tup [none, none], [.c (tbO t), .c (.sc (.int .i64 k))]⟩
noncomputable abbrev EAfter : Env := ext (ext (ext env0 32 specBeginT) 47 specIs) 36 specDoT
theorem wAfter (n : Nat) (es : List (Int × Int)) (hR : RightG n es) (l : List Cu) (hl : l.length ≤ 1000000) : ∃ k, Try.f39.body = some k ∧ RP (regOf Try.prog EAfter 41 u39) k (argsSt 0 [gr n es, cuts l]) (endsAs Try.prog Try.f39 (afB (replT (tbE n es es.length) l).1 (replT (tbE n es es.length) l).2)) := by
  refine ⟨_, rfl, ?_⟩
  generalize hQ : endsAs Try.prog Try.f39 (afB (replT (tbE n es es.length) l).1 (replT (tbE n es es.length) l).2) = Q
  simp only [argsSt]
  have hn := hR.1
  have hn6 : n ≤ 1000000 := by omega
  have h0 := begin_agr hR
  generalize ht0 : tbE n es es.length = t0 at *
  refine go ?_
  try rw [ht0]
  refine go ?_
  apply rp_loop (fun k σ => ∃ (i : Nat) (t : Tbl) (r : Rst), i ≤ l.length ∧ k = l.length - i ∧ Agr n r t ∧ replT t0 l = ((replT t (l.drop i)).1, (replT t (l.drop i)).2 + i) ∧ σ = [(1, cuts l), (6, smO t), (7, iv i)]) l.length
  · exact ⟨0, t0, _, by omega, by omega, h0, rfl, rfl⟩
  rintro k σ ⟨i, t, r, hi, rfl, hr, hre, rfl⟩
  by_cases hil : i < l.length
  · have hd : l.drop i = l[i] :: l.drop (i + 1) := List.drop_eq_getElem_cons hil
    rw [← cuAt_eq hil] at hd
    rw [hd] at hre
    have stop : stepT t (cuAt l i) = none → replT t0 l = (t, i) := fun h => by rw [hre, replT, h]; simp
    have on : ∀ t', stepT t (cuAt l i) = some t' → replT t0 l = ((replT t' (l.drop (i + 1))).1, (replT t' (l.drop (i + 1))).2 + (i + 1)) := fun t' h => by rw [hre, replT, h]; simp only [Prod.mk.injEq, true_and]; omega
    have good : TbGood t := ⟨by rw [hr.tb.inn]; exact hr.tb, by rw [hr.tb.inn]; exact hn6⟩
    have hcut := @Agr.cut n r t hr (cuAt l i)
    have hst := hr.step hn6 (cuAt l i)
    generalize hE : cuAt l i = e at *
    obtain ⟨A, B, C, P, Q', S⟩ := e
    cases hk : isK t (A, B, C, P, Q', S) with
    | false =>
      rw [stop (by unfold stepT; rw [hk]; rfl)] at hQ
      refine go ?_
      rw [hE]
      refine go ?_
      simp only [hk]
      refine go ?_
      show Q .ret _; refine fin_ret hQ rfl ?_
      rfl
    | true =>
      obtain ⟨a, b, c, p, q, s, he, k, _⟩ := hcut hk
      have dok : DoTOk t (A, B, C, P, Q', S) := by rw [he]; exact (hr.do hn6 k).1
      have dok' : DoTOk t ((cuAt l i).1, (cuAt l i).2.1, (cuAt l i).2.2.1, (cuAt l i).2.2.2.1, (cuAt l i).2.2.2.2.1, (cuAt l i).2.2.2.2.2) := by rw [hE]; exact dok
      cases hf : (doT t (A, B, C, P, Q', S)).2 with
      | false =>
        have hsame := doT_no hf
        rw [stop (by unfold stepT; rw [hk, hf]; rfl)] at hQ
        refine go ?_
        rw [hE]
        refine go ?_
        simp only [hk]
        refine go ?_
        rw [hE]
        refine go ?_
        simp only [hf, hsame]
        refine go ?_
        show Q .ret _; refine fin_ret hQ rfl ?_
        rfl
      | true =>
        have hstep : stepT t (A, B, C, P, Q', S) = some (doT t (A, B, C, P, Q', S)).1 := by unfold stepT; rw [hk, hf]; rfl
        refine go ?_
        rw [hE]
        refine go ?_
        simp only [hk]
        refine go ?_
        rw [hE]
        refine go ?_
        simp only [hf]
        refine go ?_
        rcases hst with ⟨t', r', g1, g2, g3⟩ | ⟨g1, _⟩
        · rw [hstep] at g1
          obtain rfl := Option.some.inj g1
          exact nxt (l.length - (i + 1)) (by omega) ⟨i + 1, _, r', by omega, rfl, g3, on _ hstep, rfl⟩
        · rw [hstep] at g1; cases g1
  obtain rfl : i = l.length := by omega
  rw [List.drop_length] at hre
  rw [show replT t0 l = (t, l.length) by rw [hre]; simp [replT]] at hQ
  refine go ?_
  show Q .ret _; refine fin_ret hQ rfl ?_
  rfl
theorem EAfter_ok : EnvOk Try.prog EAfter := ext_ok (ext_ok (ext_ok env0_ok okBeginT) okIs) okDoT
noncomputable def specAfter : Spec := spec2 asGr asCuts fun g l => when (RightG g.1 g.2 ∧ l.length ≤ 1000000) (afB (replT (tbE g.1.toNat g.2 g.2.length) l).1 (replT (tbE g.1.toNat g.2 g.2.length) l).2)
theorem okAfter : SpecOk 39 specAfter := by
  intro us r h
  obtain ⟨x, y, g, l, rfl, hg, hl, h⟩ := spec2_eq h
  obtain ⟨⟨h1, h2⟩, rfl⟩ := when_eq h
  rw [asGr_eq hg, asCuts_eq hl]
  have h0 : ((g.1.toNat : Nat) : Int) = g.1 := by have := h1.1; omega
  have hw := wAfter g.1.toNat g.2 (by rw [h0]; exact h1) l h2
  rw [h0] at hw
  exact goodBy2 EAfter_ok Try.func39 rfl (Nat.le_of_ble_eq_true rfl) (by decide) hw
@[simp] theorem sAfter (n : Nat) (es : List (Int × Int)) (l : List Cu) (h : RightG n es ∧ l.length ≤ 1000000) : specAfter [gr n es, ⟨.one, [.c (.sl false 6 () (CL l))]⟩] = some (afB (replT (tbE n es es.length) l).1 (replT (tbE n es es.length) l).2) := by
  unfold specAfter; rw [spec2_v (asGr_gr (n : Int) es) (asCuts_cuts l)]; exact when_pos _ h
@[simp] theorem callAfter {E : Env} {σ : St Unit} {t : Nat} {l : List Operand} : effCall Try.prog E ΩU σ t 39 l = callO E 39 t (argsOf Try.prog ΩU σ [26, 29] l) := eff_call Try.func39 Try.params39
end Go.Proofs.Ytnmocjhpbobahaa.L
namespace Go.Proofs.Ytnmocjhpbobahaa.L
open Go Go.RowKit
set_option maxRecDepth 100000
set_option maxHeartbeats 4000000
theorem isKt {t : Tbl} {e : Cu} (h : isK t e = true) : isK t e = true := h
theorem isKf {t : Tbl} {e : Cu} (h : isK t e = false) : isK t e = false := h
attribute [local simp] bT bF isKt isKf
theorem isK_cut {t : Tbl} {a b c : Nat} (hab : a < b) (hbc : b < c) (hc : c < t.inn.length) : isK t (cutT t a b c) = hitT t a b c := by
  have h := @isK_iff t a b c (outT t a [(a : Int), b, c]) (outT t b [(a : Int), b, c]) (outT t c [(a : Int), b, c]) hab hbc hc
  rw [Bool.eq_iff_iff]
  unfold cutT
  rw [h]
  exact ⟨fun k => k.1, fun k => ⟨k, rfl⟩⟩
noncomputable abbrev ELeastT : Env := ext (ext env0 57 specOutT) 47 specIs
abbrev lsA (t : Tbl) (a : Nat) : St Unit := [(0, tbf t), (2, zcu), (4, iv t.inn.length), (5, iv a)]
abbrev lsB (t : Tbl) (a b : Nat) : St Unit := [(0, tbf t), (2, zcu), (4, iv t.inn.length), (5, iv a), (6, iv b)]
abbrev lsC (t : Tbl) (a b c : Nat) : St Unit := [(0, tbf t), (2, zcu), (4, iv t.inn.length), (5, iv a), (6, iv b), (7, iv c)]
theorem wLeastT (t : Tbl) (ht : TbGood t) : ∃ k, Try.f33.body = some k ∧ RP (regOf Try.prog ELeastT 91 u33) k (argsSt 0 [tbf t]) (endsAs Try.prog Try.f33 (cutB (cuO (leastT t)).1 (cuO (leastT t)).2)) := by
  refine ⟨_, rfl, ?_⟩
  generalize hQ : endsAs Try.prog Try.f33 (cutB (cuO (leastT t)).1 (cuO (leastT t)).2) = Q
  simp only [argsSt]
  have c1 := ht.1.adj
  have c2 := ht.2
  have hLa : ∀ a, leastTa t a = (List.range' (a + 1) (t.inn.length - (a + 1))).findSome? (leastTb t a) := fun _ => rfl
  have hL : leastT t = (List.range t.inn.length).findSome? (leastTa t) := rfl
  have hrow := ht.1.row
  refine go ?_
  apply rp_loop (fun k σ => ∃ a : Nat, a ≤ t.inn.length ∧ k = t.inn.length - a ∧ ((List.range t.inn.length).take a).findSome? (leastTa t) = none ∧ σ = lsA t a) t.inn.length
  · exact ⟨0, by omega, by omega, rfl, rfl⟩
  rintro k σ ⟨a, ha, rfl, hno, rfl⟩
  by_cases hal : a < t.inn.length
  case neg =>
    obtain rfl : a = t.inn.length := by omega
    rw [List.take_of_length_le (by rw [List.length_range]; exact Nat.le_refl _), ← hL] at hno
    rw [hno] at hQ
    refine go ?_
    show Q .ret _; refine fin_ret hQ rfl ?_
    rfl
  have hA : ∀ x, leastTa t a = some x → leastT t = some x := fun x h => fs_hit (l := List.range t.inn.length) (i := a) (by rw [List.length_range]; exact hal) hno (by rw [List.getElem_range]; exact h)
  have hA0 : leastTa t a = none → ((List.range t.inn.length).take (a + 1)).findSome? (leastTa t) = none := fun h => fs_step (l := List.range t.inn.length) (i := a) (by rw [List.length_range]; exact hal) hno (by rw [List.getElem_range]; exact h)
  have a2 : a < t.adj.length := by omega
  have ra := hrow a hal
  have ka : TbHas t a := ⟨_, ht.1, ht.2, hal⟩
  refine go ?_
  apply rp_loop (fun k σ => ∃ i : Nat, i ≤ t.inn.length - (a + 1) ∧ k = t.inn.length - (a + 1) - i ∧ ((List.range' (a + 1) (t.inn.length - (a + 1))).take i).findSome? (leastTb t a) = none ∧ σ = lsB t a (a + 1 + i)) (t.inn.length - (a + 1))
  · exact ⟨0, by omega, by omega, rfl, rfl⟩
  rintro k σ ⟨i, hi, rfl, hnob, rfl⟩
  by_cases hil : i < t.inn.length - (a + 1)
  case neg =>
    obtain rfl : i = t.inn.length - (a + 1) := by omega
    rw [List.take_of_length_le (by rw [List.length_range']; exact Nat.le_refl _), ← hLa] at hnob
    have e1 : a + 1 + (t.inn.length - (a + 1)) = t.inn.length := by omega
    rw [e1]
    refine go ?_
    exact nxt (t.inn.length - (a + 1)) (by omega) ⟨a + 1, by omega, rfl, hA0 hnob, rfl⟩
  have hgi : (List.range' (a + 1) (t.inn.length - (a + 1)))[i]'(by rw [List.length_range']; exact hil) = a + 1 + i := by rw [List.getElem_range']; omega
  have hB : ∀ x, leastTb t a (a + 1 + i) = some x → leastTa t a = some x := fun x h => by rw [hLa]; exact fs_hit (i := i) (by rw [List.length_range']; exact hil) hnob (by rw [hgi]; exact h)
  have hB0 : leastTb t a (a + 1 + i) = none → ((List.range' (a + 1) (t.inn.length - (a + 1))).take (i + 1)).findSome? (leastTb t a) = none := fun h => fs_step (i := i) (by rw [List.length_range']; exact hil) hnob (by rw [hgi]; exact h)
  have fin : leastTb t a (a + 1 + i) = none → (∃ i' : Nat, i' ≤ t.inn.length - (a + 1) ∧ t.inn.length - (a + 1) - (i + 1) = t.inn.length - (a + 1) - i' ∧ ((List.range' (a + 1) (t.inn.length - (a + 1))).take i').findSome? (leastTb t a) = none ∧ lsB t a (a + 1 + i + 1) = lsB t a (a + 1 + i')) := fun h => ⟨i + 1, by omega, rfl, hB0 h, rfl⟩
  clear hgi hB0 hnob
  have hbn : a + 1 + i < t.inn.length := by omega
  have hab : a < a + 1 + i := by omega
  have hlt : t.inn.length - (a + 1) - (i + 1) < t.inn.length - (a + 1) - i := by omega
  generalize a + 1 + i = b at *
  have b2 : b < t.adj.length := by omega
  have rb := hrow b hbn
  have kb : TbHas t b := ⟨_, ht.1, ht.2, hbn⟩
  have q1 : b < (nthT t.adj a).length := by omega
  have hout : ¬ (nthB t.inn a = true ∧ nthB t.inn b = true ∧ nthB (nthT t.adj a) b = true) → leastTb t a b = none := fun h => by unfold leastTb; rw [if_neg h]
  have eB : (nthB t.inn a = true ∧ nthB t.inn b = true ∧ nthB (nthT t.adj a) b = true) → leastTb t a b = (List.range' (b + 1) (t.inn.length - (b + 1))).findSome? (leastTc t a b) := fun h => by unfold leastTb; rw [if_pos h]
  refine go ?_
  cases m1 : nthB t.inn a with
  | false =>
    apply rp_loop (fun k σ => k = 0 ∧ σ = lsC t a b (b + 1)) 0
    · exact ⟨rfl, rfl⟩
    rintro k σ ⟨rfl, rfl⟩
    by_cases hb1 : b + 1 < t.inn.length
    · refine go ?_
      exact nxt _ hlt (fin (hout (by rw [m1]; rintro ⟨h, _⟩; cases h)))
    · refine go ?_
      exact nxt _ hlt (fin (hout (by rw [m1]; rintro ⟨h, _⟩; cases h)))
  | true =>
  cases m2 : nthB t.inn b with
  | false =>
    apply rp_loop (fun k σ => k = 0 ∧ σ = lsC t a b (b + 1)) 0
    · exact ⟨rfl, rfl⟩
    rintro k σ ⟨rfl, rfl⟩
    by_cases hb1 : b + 1 < t.inn.length
    · refine go ?_
      exact nxt _ hlt (fin (hout (by rw [m2]; rintro ⟨_, h, _⟩; cases h)))
    · refine go ?_
      exact nxt _ hlt (fin (hout (by rw [m2]; rintro ⟨_, h, _⟩; cases h)))
  | true =>
  cases m3 : nthB (nthT t.adj a) b with
  | false =>
    apply rp_loop (fun k σ => k = 0 ∧ σ = lsC t a b (b + 1)) 0
    · exact ⟨rfl, rfl⟩
    rintro k σ ⟨rfl, rfl⟩
    by_cases hb1 : b + 1 < t.inn.length
    · refine go ?_
      exact nxt _ hlt (fin (hout (by rw [m3]; rintro ⟨_, _, h⟩; cases h)))
    · refine go ?_
      exact nxt _ hlt (fin (hout (by rw [m3]; rintro ⟨_, _, h⟩; cases h)))
  | true =>
  have eB' := eB ⟨m1, m2, m3⟩
  rw [eB'] at hB fin
  clear eB hout eB'
  apply rp_loop (fun k σ => ∃ j : Nat, j ≤ t.inn.length - (b + 1) ∧ k = t.inn.length - (b + 1) - j ∧ ((List.range' (b + 1) (t.inn.length - (b + 1))).take j).findSome? (leastTc t a b) = none ∧ σ = lsC t a b (b + 1 + j)) (t.inn.length - (b + 1))
  · exact ⟨0, by omega, by omega, rfl, rfl⟩
  rintro k σ ⟨j, hj, rfl, hnoc, rfl⟩
  by_cases hjl : j < t.inn.length - (b + 1)
  case neg =>
    have hj' : j = t.inn.length - (b + 1) := by omega
    rw [List.take_of_length_le (by rw [List.length_range']; omega)] at hnoc
    have e1 : ¬ b + 1 + j < t.inn.length := by omega
    generalize b + 1 + j = c at *
    refine go ?_
    exact nxt _ hlt (fin hnoc)
  have hgj : (List.range' (b + 1) (t.inn.length - (b + 1)))[j]'(by rw [List.length_range']; exact hjl) = b + 1 + j := by rw [List.getElem_range']; omega
  have hC : ∀ x, leastTc t a b (b + 1 + j) = some x → (List.range' (b + 1) (t.inn.length - (b + 1))).findSome? (leastTc t a b) = some x := fun x h => fs_hit (i := j) (by rw [List.length_range']; exact hjl) hnoc (by rw [hgj]; exact h)
  have hC0 : leastTc t a b (b + 1 + j) = none → ((List.range' (b + 1) (t.inn.length - (b + 1))).take (j + 1)).findSome? (leastTc t a b) = none := fun h => fs_step (i := j) (by rw [List.length_range']; exact hjl) hnoc (by rw [hgj]; exact h)
  have fin2 : leastTc t a b (b + 1 + j) = none → (∃ j' : Nat, j' ≤ t.inn.length - (b + 1) ∧ t.inn.length - (b + 1) - (j + 1) = t.inn.length - (b + 1) - j' ∧ ((List.range' (b + 1) (t.inn.length - (b + 1))).take j').findSome? (leastTc t a b) = none ∧ lsC t a b (b + 1 + j + 1) = lsC t a b (b + 1 + j')) := fun h => ⟨j + 1, by omega, rfl, hC0 h, rfl⟩
  clear hgj hC0 hnoc
  have hcn : b + 1 + j < t.inn.length := by omega
  have hbc : b < b + 1 + j := by omega
  have hlt2 : t.inn.length - (b + 1) - (j + 1) < t.inn.length - (b + 1) - j := by omega
  generalize b + 1 + j = c at *
  have kc : TbHas t c := ⟨_, ht.1, ht.2, hcn⟩
  have hk := isK_cut hab hbc hcn
  unfold cutT at hk
  cases hh : hitT t a b c with
  | true =>
    rw [hh] at hk
    rw [hA _ (hB _ (hC _ (by unfold leastTc; rw [if_pos hh])))] at hQ
    refine go ?_
    show Q .ret _; refine fin_ret hQ rfl ?_
    rfl
  | false =>
    rw [hh] at hk
    refine go ?_
    exact nxt _ hlt2 (fin2 (by unfold leastTc; rw [if_neg (by rw [hh]; exact Bool.noConfusion)]))
theorem ELeastT_ok : EnvOk Try.prog ELeastT := ext_ok (ext_ok env0_ok okOutT) okIs
noncomputable def specLeastT : Spec := fun us => match us with
  | [x] => match asTb x with
    | some t => whenC (TbGood t) (cutB (cuO (leastT t)).1 (cuO (leastT t)).2)
    | _ => none
  | _ => none
theorem okLeastT : SpecOk 33 specLeastT := by
  intro us R h
  unfold specLeastT at h
  split at h
  · split at h
    · next x _ t h1 =>
      obtain ⟨h2, rfl⟩ := whenC_eq h
      rw [asTb_eq h1]
      exact goodBy2 ELeastT_ok Try.func33 rfl (Nat.le_of_ble_eq_true rfl) (by decide) (wLeastT t h2)
    · cases h
  · cases h
@[simp] theorem sLeastT {t : Tbl} (h : TbGood t) : specLeastT [⟨.one, [.c (tbF t)]⟩] = some (cutB (cuO (leastT t)).1 (cuO (leastT t)).2) := by
  unfold specLeastT
  simp only [asTb_tb]
  exact whenC_pos _ h
@[simp] theorem callLeastT {E : Env} {σ : St Unit} {t : Nat} {l : List Operand} : effCall Try.prog E ΩU σ t 33 l = callO E 33 t (argsOf Try.prog ΩU σ [70] l) := eff_call Try.func33 Try.params33
end Go.Proofs.Ytnmocjhpbobahaa.L
