/- R37: rest.replay. -/
import Derived.Test.YtnmocjhpbobahaaY24
import Derived.Test.YtnmocjhpbobahaaY34
set_option linter.unusedVariables false
set_option linter.unusedSimpArgs false
set_option linter.unnecessarySimpa false
namespace Go.Proofs.Ytnmocjhpbobahaa.L
open Go Go.RowKit
set_option maxRecDepth 100000
set_option maxHeartbeats 4000000
theorem same3_t {a b c a' b' c' : Int} (h : same3 a b c a' b' c' = true) : same3 a b c a' b' c' = true := h
theorem same3_f {a b c a' b' c' : Int} (h : same3 a b c a' b' c' = false) : same3 a b c a' b' c' = false := h
attribute [local simp] lendO same3_t same3_f
/-- Is it a triangle's corners? -/
def okAt (n : Nat) (e : Cu) : Prop := 0 ≤ e.1 ∧ e.1 < e.2.1 ∧ e.2.1 < e.2.2.1 ∧ e.2.2.1 < n
instance (n : Nat) (e : Cu) : Decidable (okAt n e) := by unfold okAt; infer_instance
def sameO (e f : Cu) : Bool := same3 e.2.2.2.1 e.2.2.2.2.1 e.2.2.2.2.2 f.2.2.2.1 f.2.2.2.2.1 f.2.2.2.2.2
/-- One cut that is told is done. -/
def stepF (n : Nat) (r : Rst) (e : Cu) : Option Rst :=
  if okAt n e ∧ (cutF r e.1.toNat e.2.1.toNat e.2.2.1.toNat).2 = true ∧ sameO (cutF r e.1.toNat e.2.1.toNat e.2.2.1.toNat).1 e = true ∧ (doF r e).2 = true then some (doF r e).1 else none
def replF (n : Nat) : Rst → List Cu → Rst × Nat
  | r, [] => (r, 0)
  | r, e :: l => match stepF n r e with
    | some r' => ((replF n r' l).1, (replF n r' l).2 + 1)
    | none => (r, 0)
theorem maxL3 (p q s : Int) : maxL [p, q, s] = max (max p q) s := rfl
noncomputable abbrev ERepl : Env := ext (ext (ext (ext (ext (ext env0 43 specCorners) 44 specMin) 45 specMax) 46 specCut) 62 specBeside) 30 specDo
theorem wRepl (n : Nat) (r0 : Rst) (h0 : RstI n r0) (hn : n ≤ 1000000) (l : List Cu) (hl : l.length ≤ 1000000) : ∃ k, Try.f37.body = some k ∧ RP (regOf Try.prog ERepl (72 + zeroN) u37) k (argsSt 0 [one (.c (rstO r0)), ⟨.one, [.c (.sl false 6 () (CL l))]⟩]) (endsAsL Try.prog Try.f37 (rstO r0) (lentSV (rstO (replF n r0 l).1) (iv (replF n r0 l).2))) := by
  refine ⟨_, rfl, ?_⟩
  generalize hQ : endsAsL Try.prog Try.f37 (rstO r0) (lentSV (rstO (replF n r0 l).1) (iv (replF n r0 l).2)) = Q
  simp only [argsSt]
  refine go ?_
  apply rp_loop (fun k σ => ∃ (i : Nat) (r : Rst), i ≤ l.length ∧ k = l.length - i ∧ RstI n r ∧ replF n r0 l = ((replF n r (l.drop i)).1, (replF n r (l.drop i)).2 + i) ∧ σ = [(0, one (.c (rstO r))), (1, ⟨.one, [.c (.sl false 6 () (CL l))]⟩), (10, ⟨.one, [.c (.sl false 6 () (CL l))]⟩), (11, iv l.length), (12, iv i)]) l.length
  · exact ⟨0, r0, by omega, by omega, h0, rfl, rfl⟩
  rintro k σ ⟨i, r, hi, rfl, hr, hre, rfl⟩
  have c1 := hr.near
  by_cases hil : i < l.length
  · have hd : l.drop i = l[i] :: l.drop (i + 1) := List.drop_eq_getElem_cons hil
    rw [← cuAt_eq hil] at hd
    rw [hd] at hre
    generalize hE : cuAt l i = e at *
    have stop : stepF n r e = none → replF n r0 l = (r, i) := fun h => by rw [hre, replF, h]; simp
    have on : ∀ r', stepF n r e = some r' → replF n r0 l = ((replF n r' (l.drop (i + 1))).1, (replF n r' (l.drop (i + 1))).2 + (i + 1)) := fun r' h => by rw [hre, replF, h]; simp only [Prod.mk.injEq, true_and]; omega
    obtain ⟨A, B, C, P, Q', R⟩ := e
    refine go ?_
    rw [hE]
    refine go ?_
    by_cases h1 : minL [A, B, C] < 0
    · rw [stop (by unfold stepF; rw [if_neg (fun h => by have := h.1; unfold okAt at this; rw [minL3] at h1; simp only at this; omega)])] at hQ
      refine go ?_
      show Q .ret _
      refine finL_ret hQ rfl rfl rfl
    by_cases h2 : (r.near.length : Int) ≤ maxL [A, B, C]
    · rw [stop (by unfold stepF; rw [if_neg (fun h => by have := h.1; unfold okAt at this; rw [maxL3] at h2; simp only at this; omega)])] at hQ
      refine go ?_
      show Q .ret _
      refine finL_ret hQ rfl rfl rfl
    by_cases h3 : B ≤ A
    · rw [stop (by unfold stepF; rw [if_neg (fun h => by have := h.1; unfold okAt at this; simp only at this; omega)])] at hQ
      refine go ?_
      show Q .ret _
      refine finL_ret hQ rfl rfl rfl
    by_cases h4 : C ≤ B
    · rw [stop (by unfold stepF; rw [if_neg (fun h => by have := h.1; unfold okAt at this; simp only at this; omega)])] at hQ
      refine go ?_
      show Q .ret _
      refine finL_ret hQ rfl rfl rfl
    rw [minL3] at h1
    rw [maxL3] at h2
    obtain ⟨a, rfl⟩ : ∃ a : Nat, A = (a : Int) := ⟨A.toNat, by omega⟩
    obtain ⟨b, rfl⟩ : ∃ b : Nat, B = (b : Int) := ⟨B.toNat, by omega⟩
    obtain ⟨c, rfl⟩ : ∃ c : Nat, C = (c : Int) := ⟨C.toNat, by omega⟩
    have an : a < n := by omega
    have bn : b < n := by omega
    have cn : c < n := by omega
    have tri : TriOk r a b c := ⟨n, hr.toRstOk, hn, an, bn, cn⟩
    have hok : okAt n ((a : Int), (b : Int), (c : Int), P, Q', R) := by unfold okAt; simp only; omega
    have h1' : ¬ minL [(a : Int), (b : Int), (c : Int)] < 0 := by rw [minL3]; omega
    have h2' : ¬ (r.near.length : Int) ≤ maxL [(a : Int), (b : Int), (c : Int)] := by rw [maxL3]; omega
    cases hk : (cutF r a b c).2 with
    | false =>
      rw [stop (by unfold stepF; rw [if_neg (fun h => by have := h.2.1; simp only [Int.toNat_natCast] at this; rw [hk] at this; cases this)])] at hQ
      refine go ?_
      simp only [hk]
      refine go ?_
      show Q .ret _
      refine finL_ret hQ rfl rfl rfl
    | true =>
      obtain ⟨p, q, s, he, k⟩ := cutI hr.toRstS (by omega) (by omega) cn (e := (cutF r a b c).1) (Prod.ext rfl hk)
      have hcut : cutF r a b c = (((a : Int), (b : Int), (c : Int), p, q, s), true) := Prod.ext he hk
      cases hs : same3 p q s P Q' R with
      | false =>
        rw [stop (by unfold stepF; rw [if_neg (fun h => by have := h.2.2.1; simp only [Int.toNat_natCast] at this; rw [hcut] at this; unfold sameO at this; simp only at this; rw [hs] at this; cases this)])] at hQ
        refine go ?_
        simp only [hcut]
        refine go ?_
        show Q .ret _
        refine finL_ret hQ rfl rfl rfl
      | true =>
        obtain ⟨rfl, rfl, rfl⟩ := same3_iff.1 hs
        have dok : DoOk r ((a : Int), (b : Int), (c : Int), p, q, s) := ⟨n, a, b, c, p, q, s, hr, hn, rfl, k⟩
        have hstep : stepF n r ((a : Int), (b : Int), (c : Int), p, q, s) = if (doF r ((a : Int), (b : Int), (c : Int), p, q, s)).2 = true then some (doF r ((a : Int), (b : Int), (c : Int), p, q, s)).1 else none := by
          unfold stepF
          simp only [Int.toNat_natCast, hcut, hok, true_and]
          rw [show sameO ((a : Int), (b : Int), (c : Int), p, q, s) ((a : Int), (b : Int), (c : Int), p, q, s) = true from hs]
          simp
        have hds := do_step hr k
        have hdn := doF_no hr k
        refine go ?_
        simp only [hcut]
        refine go ?_
        cases hf : (doF r ((a : Int), (b : Int), (c : Int), p, q, s)).2 with
        | false =>
          have hr' := hdn hf
          rw [stop (by rw [hstep, hf]; rfl)] at hQ
          refine go ?_
          rw [hr']
          show Q .ret _
          refine finL_ret hQ rfl rfl rfl
        | true =>
          refine go ?_
          exact nxt (l.length - (i + 1)) (by omega) ⟨i + 1, _, by omega, rfl, hds.1, on _ (by rw [hstep, hf]; rfl), rfl⟩
  obtain rfl : i = l.length := by omega
  rw [List.drop_length] at hre
  rw [show replF n r0 l = (r, l.length) by rw [hre]; simp [replF]] at hQ
  refine go ?_
  show Q .ret _
  refine finL_ret hQ rfl rfl rfl
theorem ERepl_ok : EnvOk Try.prog ERepl := ext_ok (ext_ok (ext_ok (ext_ok (ext_ok (ext_ok env0_ok okCorners) okMin) okMax) okCut) okBeside) okDo
def ReplOk (r : Rst) (l : List Cu) : Prop := RstI r.near.length r ∧ r.near.length ≤ 1000000 ∧ l.length ≤ 1000000
noncomputable def specRepl : Spec := fun us => match us with
  | [x, y] => match asRstO x, asCuts y with
    | some r, some l => whenC (ReplOk r l) (lentSV (rstO (replF r.near.length r l).1) (iv (replF r.near.length r l).2))
    | _, _ => none
  | _ => none
theorem okRepl : SpecOk 37 specRepl := by
  intro us R h
  unfold specRepl at h
  split at h
  · split at h
    · next x y _ r l h1 h2 =>
      obtain ⟨⟨hr, hn, hl⟩, rfl⟩ := whenC_eq h
      rw [asRstO_eq h1, asCuts_eq h2]
      have := wRepl _ r hr hn l hl
      show GoodE Try.prog 37 (one (.c (rstO r)) :: _) _
      unfold GoodE
      exact goodBy2L ERepl_ok Try.func37 rfl (Nat.le_of_ble_eq_true rfl) (by decide) this
    · cases h
  · cases h
@[simp] theorem sReplR {r : Rst} {l : List Cu} (h : ReplOk r l) : specRepl [⟨.one, [.c (rstO r)]⟩, ⟨.one, [.c (.sl false 6 () (CL l))]⟩] = some (lentSV (rstO (replF r.near.length r l).1) (iv (replF r.near.length r l).2)) := by
  unfold specRepl
  have := asCuts_cuts l
  unfold cuts at this
  simp only [asRstO_rst, this]
  exact whenC_pos _ h
@[simp] theorem sReplF {l : List (Cell Unit)} {y : SV Unit} : specRepl [⟨.one, [.c (.bx false () l)]⟩, y] = none := by
  unfold specRepl
  simp only [asRstO_fro]
@[simp] theorem callRepl {E : Env} {σ : St Unit} {t : Nat} {l : List Operand} : effCall Try.prog E ΩU σ t 37 l = callO E 37 t (argsOf Try.prog ΩU σ [63, 33] l) := eff_call Try.func37 Try.params37
@[simp] theorem lendRepl {E : Env} {σ : St Unit} {t s : Nat} {l : List Operand} : effLend Try.prog E ΩU σ t 37 (.tmp s :: l) = lendO E σ t s 37 [33] l := eff_lend Try.func37 Try.params37
end Go.Proofs.Ytnmocjhpbobahaa.L
