/- U39: carcanetref20.After. -/
import Derived.Test.YtnmocjhpbobahaaQ33
import Derived.Test.YtnmocjhpbobahaaQ37
import Derived.Test.YtnmocjhpbobahaaQ41
set_option linter.unusedVariables false
set_option linter.unusedSimpArgs false
set_option linter.unnecessarySimpa false
namespace Go.Proofs.Ytnmocjhpbobahaa.L
open Go Go.RowKit
set_option maxRecDepth 100000
set_option maxHeartbeats 4000000
attribute [local simp] lendO
/-- One cut that is told is done. -/
noncomputable def stepT (t : Tbl) (e : Cu) : Option Tbl := if isK t e = true then (if (doT t e).2 = true then some (doT t e).1 else none) else none
noncomputable def replT : Tbl → List Cu → Tbl × Nat
  | t, [] => (t, 0)
  | t, e :: l => match stepT t e with
    | some t' => ((replT t' l).1, (replT t' l).2 + 1)
    | none => (t, 0)
theorem Agr.step {n : Nat} {r : Rst} {t : Tbl} (h : Agr n r t) (hn : n ≤ 1000000) (e : Cu) : (∃ t' r', stepT t e = some t' ∧ stepF n r e = some r' ∧ Agr n r' t') ∨ (stepT t e = none ∧ stepF n r e = none) := by
  unfold stepT
  cases hk : isK t e with
  | true =>
    obtain ⟨a, b, c, p, q, s, rfl, k, hc⟩ := h.cut hk
    obtain ⟨_, d1, d2⟩ := h.do hn k
    have hok : okAt n ((a : Int), (b : Int), (c : Int), p, q, s) := by have := k.ab; have := k.bc; have := k.cn; unfold okAt; simp only; omega
    have hstep : stepF n r ((a : Int), (b : Int), (c : Int), p, q, s) = if (doF r ((a : Int), (b : Int), (c : Int), p, q, s)).2 = true then some (doF r ((a : Int), (b : Int), (c : Int), p, q, s)).1 else none := by
      unfold stepF
      simp only [Int.toNat_natCast, hc, hok, true_and]
      rw [show sameO ((a : Int), (b : Int), (c : Int), p, q, s) ((a : Int), (b : Int), (c : Int), p, q, s) = true from same3_iff.2 ⟨rfl, rfl, rfl⟩]
      simp
    rw [if_pos rfl, hstep, d1]
    cases hd : (doF r ((a : Int), (b : Int), (c : Int), p, q, s)).2 with
    | true => exact .inl ⟨_, _, if_pos rfl, if_pos rfl, d2⟩
    | false => exact .inr ⟨if_neg Bool.noConfusion, if_neg Bool.noConfusion⟩
  | false =>
    right
    refine ⟨if_neg Bool.noConfusion, ?_⟩
    unfold stepF
    rw [if_neg]
    rintro ⟨h1, h2, h3, h4⟩
    have hc : cutF r e.1.toNat e.2.1.toNat e.2.2.1.toNat = (e, true) := by
      refine Prod.ext ?_ h2
      obtain ⟨A, B, C, P, Q', S⟩ := e
      have h1' := h1
      unfold okAt at h1'
      simp only at h1' h2 h3 ⊢
      obtain ⟨a, rfl⟩ : ∃ a : Nat, A = (a : Int) := ⟨A.toNat, by omega⟩
      obtain ⟨b, rfl⟩ : ∃ b : Nat, B = (b : Int) := ⟨B.toNat, by omega⟩
      obtain ⟨c, rfl⟩ : ∃ c : Nat, C = (c : Int) := ⟨C.toNat, by omega⟩
      simp only [Int.toNat_natCast] at h2 h3 ⊢
      obtain ⟨p, q, s, he, k⟩ := cutI h.rst.toRstS (show a < b by omega) (show b < c by omega) (by omega : c < n) (e := (cutF r a b c).1) (Prod.ext rfl h2)
      rw [he] at h3 ⊢
      obtain ⟨rfl, rfl, rfl⟩ := same3_iff.1 h3
      rfl
    have := (h.is e).2 ⟨h1, hc⟩
    rw [hk] at this
    cases this
theorem Agr.repl {n : Nat} (hn : n ≤ 1000000) : ∀ {l : List Cu} {r : Rst} {t : Tbl}, Agr n r t → Agr n (replF n r l).1 (replT t l).1 ∧ (replT t l).2 = (replF n r l).2
  | [], r, t, h => ⟨h, rfl⟩
  | e :: l, r, t, h => by
    unfold replF replT
    rcases h.step hn e with ⟨t', r', h1, h2, h3⟩ | ⟨h1, h2⟩
    · rw [h1, h2]
      have := Agr.repl hn (l := l) h3
      exact ⟨this.1, by simp only [this.2]⟩
    · rw [h1, h2]
      exact ⟨h, rfl⟩
abbrev afB (t : Tbl) (k : Nat) : SV Unit := ⟨.tup [none, none], [.c (tbO t), .c (.sc (.int .i64 k))]⟩
noncomputable abbrev EAfter : Env := ext (ext (ext env0 32 specBeginT) 47 specIs) 36 specDoT
theorem wAfter (n : Nat) (es : List (Int × Int)) (hR : RightG n es) (l : List Cu) (hl : l.length ≤ 1000000) : ∃ k, Try.f39.body = some k ∧ RP (regOf Try.prog EAfter 41 u39) k (argsSt 0 [gr n es, cuts l]) (endsAs Try.prog Try.f39 (afB (replT (tbE n es es.length) l).1 (replT (tbE n es es.length) l).2)) := by
  refine ⟨_, rfl, ?_⟩
  generalize hQ : endsAs Try.prog Try.f39 (afB (replT (tbE n es es.length) l).1 (replT (tbE n es es.length) l).2) = Q
  simp only [argsSt]
  have hn := hR.1
  have hn6 : n ≤ 1000000 := by omega
  have h0 := begin_agr hR
  generalize ht0 : tbE n es es.length = t0 at *
  refine go ?_
  try rw [ht0]
  refine go ?_
  apply rp_loop (fun k σ => ∃ (i : Nat) (t : Tbl) (r : Rst), i ≤ l.length ∧ k = l.length - i ∧ Agr n r t ∧ replT t0 l = ((replT t (l.drop i)).1, (replT t (l.drop i)).2 + i) ∧ σ = [(1, cuts l), (6, smO t), (7, iv i)]) l.length
  · exact ⟨0, t0, _, by omega, by omega, h0, rfl, rfl⟩
  rintro k σ ⟨i, t, r, hi, rfl, hr, hre, rfl⟩
  by_cases hil : i < l.length
  · have hd : l.drop i = l[i] :: l.drop (i + 1) := List.drop_eq_getElem_cons hil
    rw [← cuAt_eq hil] at hd
    rw [hd] at hre
    have stop : stepT t (cuAt l i) = none → replT t0 l = (t, i) := fun h => by rw [hre, replT, h]; simp
    have on : ∀ t', stepT t (cuAt l i) = some t' → replT t0 l = ((replT t' (l.drop (i + 1))).1, (replT t' (l.drop (i + 1))).2 + (i + 1)) := fun t' h => by rw [hre, replT, h]; simp only [Prod.mk.injEq, true_and]; omega
    have good : TbGood t := ⟨by rw [hr.tb.inn]; exact hr.tb, by rw [hr.tb.inn]; exact hn6⟩
    have hcut := @Agr.cut n r t hr (cuAt l i)
    have hst := hr.step hn6 (cuAt l i)
    generalize hE : cuAt l i = e at *
    obtain ⟨A, B, C, P, Q', S⟩ := e
    cases hk : isK t (A, B, C, P, Q', S) with
    | false =>
      rw [stop (by unfold stepT; rw [hk]; rfl)] at hQ
      refine go ?_
      rw [hE]
      refine go ?_
      simp only [hk]
      refine go ?_
      show Q .ret _; refine fin_ret hQ rfl ?_
      rfl
    | true =>
      obtain ⟨a, b, c, p, q, s, he, k, _⟩ := hcut hk
      have dok : DoTOk t (A, B, C, P, Q', S) := by rw [he]; exact (hr.do hn6 k).1
      have dok' : DoTOk t ((cuAt l i).1, (cuAt l i).2.1, (cuAt l i).2.2.1, (cuAt l i).2.2.2.1, (cuAt l i).2.2.2.2.1, (cuAt l i).2.2.2.2.2) := by rw [hE]; exact dok
      cases hf : (doT t (A, B, C, P, Q', S)).2 with
      | false =>
        have hsame := doT_no hf
        rw [stop (by unfold stepT; rw [hk, hf]; rfl)] at hQ
        refine go ?_
        rw [hE]
        refine go ?_
        simp only [hk]
        refine go ?_
        rw [hE]
        refine go ?_
        simp only [hf, hsame]
        refine go ?_
        show Q .ret _; refine fin_ret hQ rfl ?_
        rfl
      | true =>
        have hstep : stepT t (A, B, C, P, Q', S) = some (doT t (A, B, C, P, Q', S)).1 := by unfold stepT; rw [hk, hf]; rfl
        refine go ?_
        rw [hE]
        refine go ?_
        simp only [hk]
        refine go ?_
        rw [hE]
        refine go ?_
        simp only [hf]
        refine go ?_
        rcases hst with ⟨t', r', g1, g2, g3⟩ | ⟨g1, _⟩
        · rw [hstep] at g1
          obtain rfl := Option.some.inj g1
          exact nxt (l.length - (i + 1)) (by omega) ⟨i + 1, _, r', by omega, rfl, g3, on _ hstep, rfl⟩
        · rw [hstep] at g1; cases g1
  obtain rfl : i = l.length := by omega
  rw [List.drop_length] at hre
  rw [show replT t0 l = (t, l.length) by rw [hre]; simp [replT]] at hQ
  refine go ?_
  show Q .ret _; refine fin_ret hQ rfl ?_
  rfl
theorem EAfter_ok : EnvOk Try.prog EAfter := ext_ok (ext_ok (ext_ok env0_ok okBeginT) okIs) okDoT
noncomputable def specAfter : Spec := spec2 asGr asCuts fun g l => when (RightG g.1 g.2 ∧ l.length ≤ 1000000) (afB (replT (tbE g.1.toNat g.2 g.2.length) l).1 (replT (tbE g.1.toNat g.2 g.2.length) l).2)
theorem okAfter : SpecOk 39 specAfter := by
  intro us r h
  obtain ⟨x, y, g, l, rfl, hg, hl, h⟩ := spec2_eq h
  obtain ⟨⟨h1, h2⟩, rfl⟩ := when_eq h
  rw [asGr_eq hg, asCuts_eq hl]
  have h0 : ((g.1.toNat : Nat) : Int) = g.1 := by have := h1.1; omega
  have hw := wAfter g.1.toNat g.2 (by rw [h0]; exact h1) l h2
  rw [h0] at hw
  exact goodBy2 EAfter_ok Try.func39 rfl (Nat.le_of_ble_eq_true rfl) (by decide) hw
@[simp] theorem sAfter (n : Nat) (es : List (Int × Int)) (l : List Cu) (h : RightG n es ∧ l.length ≤ 1000000) : specAfter [gr n es, ⟨.one, [.c (.sl false 6 () (CL l))]⟩] = some (afB (replT (tbE n es es.length) l).1 (replT (tbE n es es.length) l).2) := by
  unfold specAfter; rw [spec2_v (asGr_gr (n : Int) es) (asCuts_cuts l)]; exact when_pos _ h
@[simp] theorem callAfter {E : Env} {σ : St Unit} {t : Nat} {l : List Operand} : effCall Try.prog E ΩU σ t 39 l = callO E 39 t (argsOf Try.prog ΩU σ [26, 29] l) := eff_call Try.func39 Try.params39
end Go.Proofs.Ytnmocjhpbobahaa.L
