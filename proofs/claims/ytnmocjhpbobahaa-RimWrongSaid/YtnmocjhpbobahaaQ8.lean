/- M32: runs, by what is to hold behind them. -/
import Derived.Test.YtnmocjhpbobahaaQ7
set_option linter.unusedVariables false
set_option linter.unusedSimpArgs false
set_option linter.unnecessarySimpa false
namespace Go.Proofs.Ytnmocjhpbobahaa.L
open Go Go.RowKit

theorem run_mono {reg : Reg} : ∀ (n m : Nat) (c : Code) (σ : St Unit) (r : Ex × St Unit), run reg n c σ = some r → n ≤ m → run reg m c σ = some r := by
  intro n
  induction n with
  | zero => intro m c σ r h; simp [run] at h
  | succ n ih =>
    intro m c σ r h hm
    obtain ⟨k, rfl⟩ : ∃ k, m = k + 1 := ⟨m - 1, by omega⟩
    have IH := fun c σ r h => ih k c σ r h (by omega)
    cases c with
    | seq a b =>
      simp only [run] at h ⊢
      cases ha : run reg n a σ with
      | none => rw [ha] at h; cases h
      | some z =>
        obtain ⟨e, σ1⟩ := z
        rw [ha] at h
        rw [IH a σ _ ha]
        cases e with
        | normal => exact IH b σ1 r h
        | _ => exact h
    | cond x a b =>
      simp only [run] at h ⊢
      split at h
      · next v hv =>
        split at h
        · next t =>
          cases t with
          | true => exact IH a σ r h
          | false => exact IH b σ r h
        · cases h
      · cases h
    | block id a =>
      simp only [run] at h ⊢
      cases ha : run reg n a σ with
      | none => rw [ha] at h; cases h
      | some z => rw [ha] at h; rw [IH a σ _ ha]; exact h
    | loop a =>
      simp only [run] at h ⊢
      cases ha : run reg n a σ with
      | none => rw [ha] at h; cases h
      | some z =>
        obtain ⟨e, σ1⟩ := z
        rw [ha] at h
        rw [IH a σ _ ha]
        cases e with
        | normal => exact IH _ σ1 r h
        | _ => exact h
    | scope a =>
      simp only [run] at h ⊢
      cases ha : run reg n a σ with
      | none => rw [ha] at h; cases h
      | some z => rw [ha] at h; rw [IH a σ _ ha]; exact h
    | _ => exact h

/-- The code runs from σ, and Q holds behind it. -/
def RP (reg : Reg) (c : Code) (σ : St Unit) (Q : Ex → St Unit → Prop) : Prop := ∃ n e σ', run reg n c σ = some (e, σ') ∧ Q e σ'
section
variable {reg : Reg} {σ : St Unit} {Q : Ex → St Unit → Prop}
theorem rp_skip (h : Q .normal σ) : RP reg .skip σ Q := ⟨1, _, _, rfl, h⟩
theorem rp_label {l : Nat} (h : Q .normal σ) : RP reg (.label l) σ Q := ⟨1, _, _, rfl, h⟩
theorem rp_exit {i : Nat} (h : Q (.exit i) σ) : RP reg (.exit i) σ Q := ⟨1, _, _, rfl, h⟩
theorem rp_ret (h : Q .ret σ) : RP reg .ret σ Q := ⟨1, _, _, rfl, h⟩
theorem rp_region {id : Nat} {ops : Array Oper} {draw : Bool} {σ' : St Unit} (hr : reg id ops draw σ = some σ') (h : Q .normal σ') : RP reg (.region id ops draw) σ Q := ⟨1, _, _, by simp only [run, hr], h⟩
/-- What follows a part. -/
def thenR (reg : Reg) (b : Code) (Q : Ex → St Unit → Prop) : Ex → St Unit → Prop
  | .normal, σ => RP reg b σ Q
  | e, σ => Q e σ
theorem rp_seq {a b : Code} (h : RP reg a σ (thenR reg b Q)) : RP reg (.seq a b) σ Q := by
  obtain ⟨n, e, σ1, h1, h2⟩ := h
  cases e with
  | normal =>
    obtain ⟨m, e', σ2, h3, h4⟩ := h2
    refine ⟨n + m + 1, e', σ2, ?_, h4⟩
    simp only [run, run_mono n (n + m) a σ _ h1 (by omega)]
    exact run_mono m (n + m) b σ1 _ h3 (by omega)
  | exit i => exact ⟨n + 1, _, σ1, by simp only [run, h1], h2⟩
  | goto l => exact ⟨n + 1, _, σ1, by simp only [run, h1], h2⟩
  | ret => exact ⟨n + 1, _, σ1, by simp only [run, h1], h2⟩
theorem rp_cond {x : Operand} {a b : Code} {t : Bool} (hx : valOf σ x = some (.bool t)) (h : if t = true then RP reg a σ Q else RP reg b σ Q) : RP reg (.cond x a b) σ Q := by
  cases t with
  | true =>
    obtain ⟨n, e, σ1, h1, h2⟩ := h
    exact ⟨n + 1, e, σ1, by simp only [run, hx, if_true]; exact h1, h2⟩
  | false =>
    obtain ⟨n, e, σ1, h1, h2⟩ := h
    exact ⟨n + 1, e, σ1, by simp only [run, hx, Bool.false_eq_true, if_false]; exact h1, h2⟩
def inBlock (id : Nat) (Q : Ex → St Unit → Prop) : Ex → St Unit → Prop
  | .exit i, σ => if i = id then Q .normal σ else Q (.exit i) σ
  | e, σ => Q e σ
theorem rp_block {id : Nat} {a : Code} (h : RP reg a σ (inBlock id Q)) : RP reg (.block id a) σ Q := by
  obtain ⟨n, e, σ1, h1, h2⟩ := h
  cases e with
  | exit i =>
    simp only [inBlock] at h2
    by_cases hi : i = id
    · rw [if_pos hi] at h2; exact ⟨n + 1, _, σ1, by simp only [run, h1, if_pos hi], h2⟩
    · rw [if_neg hi] at h2; exact ⟨n + 1, _, σ1, by simp only [run, h1, if_neg hi], h2⟩
  | normal => exact ⟨n + 1, _, σ1, by simp only [run, h1], h2⟩
  | goto l => exact ⟨n + 1, _, σ1, by simp only [run, h1], h2⟩
  | ret => exact ⟨n + 1, _, σ1, by simp only [run, h1], h2⟩
def inScope (Q : Ex → St Unit → Prop) : Ex → St Unit → Prop
  | .goto _, _ => False
  | e, σ => Q e σ
theorem rp_scope {a : Code} (h : RP reg a σ (inScope Q)) : RP reg (.scope a) σ Q := by
  obtain ⟨n, e, σ1, h1, h2⟩ := h
  cases e with
  | goto l => exact h2.elim
  | normal => exact ⟨n + 1, _, σ1, by simp only [run, h1], h2⟩
  | exit i => exact ⟨n + 1, _, σ1, by simp only [run, h1], h2⟩
  | ret => exact ⟨n + 1, _, σ1, by simp only [run, h1], h2⟩
/-- A loop, by what holds at its head (with a measure). -/
def nextR (I : Nat → St Unit → Prop) (k : Nat) (Q : Ex → St Unit → Prop) : Ex → St Unit → Prop
  | .normal, σ => ∃ k', k' < k ∧ I k' σ
  | e, σ => Q e σ
theorem rp_loop {a : Code} (I : Nat → St Unit → Prop) (k : Nat) (h0 : I k σ) (h : ∀ k σ, I k σ → RP reg a σ (nextR I k Q)) : RP reg (.loop a) σ Q := by
  induction k using Nat.strongRecOn generalizing σ with
  | _ k ih =>
    obtain ⟨n, e, σ1, h1, h2⟩ := h k σ h0
    cases e with
    | normal =>
      obtain ⟨k', hk, h3⟩ := h2
      obtain ⟨m, e', σ2, h4, h5⟩ := ih k' hk h3
      refine ⟨n + m + 1, e', σ2, ?_, h5⟩
      simp only [run, run_mono n (n + m) a σ _ h1 (by omega)]
      exact run_mono m (n + m) _ σ1 _ h4 (by omega)
    | exit i => exact ⟨n + 1, _, σ1, by simp only [run, h1], h2⟩
    | goto l => exact ⟨n + 1, _, σ1, by simp only [run, h1], h2⟩
    | ret => exact ⟨n + 1, _, σ1, by simp only [run, h1], h2⟩
theorem RP.mono {c : Code} {Q' : Ex → St Unit → Prop} (h : RP reg c σ Q) (hq : ∀ e σ', Q e σ' → Q' e σ') : RP reg c σ Q' := by
  obtain ⟨n, e, σ1, h1, h2⟩ := h
  exact ⟨n, e, σ1, h1, hq e σ1 h2⟩
end

/-- Behind a body: its results read as r. -/
def endsAs (P : Program) (fn : Func) (r : SV Unit) : Ex → St Unit → Prop := fun e σ => (e = .normal ∨ e = .ret) ∧ ∃ xs d, resAll P σ pend0 fn.results.toList = some (xs, d) ∧ resSV xs = r
/-- A FUNCTION's CONTRACT BY ITS RUN. -/
theorem good_of {P : Program} {E : Env} (hE : EnvOk P E) {tabs : Tabs} (ht : tabsOk P tabs = true) {f : FuncId} {fn : Func} {c : Code} {t : List (Nat × RC)} {as : List (SV Unit)} {r : SV Unit} (hf : P.funcs[f]? = some fn) (hc : fn.body = some c) (htab : tabs.lookup f = some t)
    (hn : as.length ≤ fn.ntmps ∧ (fn.name == "runtime.NumGoroutine") = false) (hz : fn.ntmps < zeroN) (hfz : f < zeroN) (h : RP (regOf P E fn.ntmps t) c (argsSt 0 as) (endsAs P fn r)) : Good P f as r := by
  obtain ⟨n, e, σ', h1, h2, xs, d, h3, h4⟩ := h
  refine fnRun_ok hE ht (n := n) hfz ?_
  simp only [fnRun, htab, funRun, hf, hc, if_pos (And.intro (And.intro hn.1 hz) hn.2), h1, if_pos h2, h3, h4]
/-- Behind the body of a function that is lent its first argument. -/
def endsAsL (P : Program) (fn : Func) (y : Cell Unit) (R : SV Unit) : Ex → St Unit → Prop := fun e σ => (e = .normal ∨ e = .ret) ∧ ∃ xs d z, resAll P σ pend0 fn.results.toList = some (xs, d) ∧ backOf σ d y = some z ∧ lentSV z (resSV xs) = R
theorem goodL_of {P : Program} {E : Env} (hE : EnvOk P E) {tabs : Tabs} (ht : tabsOk P tabs = true) {f : FuncId} {fn : Func} {c : Code} {t : List (Nat × RC)} {y : Cell Unit} {as : List (SV Unit)} {R : SV Unit} (hf : P.funcs[f]? = some fn) (hc : fn.body = some c) (htab : tabs.lookup (f + zeroN) = some t)
    (hn : as.length < fn.ntmps ∧ (fn.name == "runtime.NumGoroutine") = false) (hz : fn.ntmps < zeroN) (hfz : f < zeroN) (h : RP (regOf P E (fn.ntmps + zeroN) t) c (argsSt 0 (one (.c y) :: as)) (endsAsL P fn y R)) : GoodL P f y as R := by
  obtain ⟨n, e, σ', h1, h2, xs, d, z, h3, h4, h5⟩ := h
  refine fnRunL_ok hE ht (n := n) hfz ?_
  simp only [fnRunL, htab, funRunL, hf, hc, if_pos (And.intro (And.intro hn.1 hz) hn.2), h1, if_pos h2, h3, h4, h5]
end Go.Proofs.Ytnmocjhpbobahaa.L
