/- S7: making rows. -/
import Derived.Test.YtngglgkemonibaaQ10
set_option linter.unusedVariables false
set_option linter.unusedSimpArgs false
set_option linter.unnecessarySimpa false
namespace Go.Proofs.Ytngglgkemonibaa.L
open Go Go.RowKit
set_option maxRecDepth 100000
@[simp] theorem flat_rep (n : Nat) : (List.replicate n [(.sc (.int .i64 0) : Cell Unit)]).flatten = IL (List.replicate n 0) := by
  induction n with
  | zero => rfl
  | succ n ih => simp only [List.replicate_succ, List.flatten_cons, ih]; rfl
@[simp] theorem rep_IL (n : Nat) (v : Int) : List.replicate n (.sc (.int .i64 v) : Cell Unit) = IL (List.replicate n v) := by simp [IL]
attribute [simp] effMake
theorem nth_set {l : List Int} {i j : Nat} {x : Int} (hi : i < l.length) : nth (l.set i x) j = if i = j then x else nth l j := by
  unfold nth
  rw [List.getD_eq_getElem?_getD, List.getD_eq_getElem?_getD, List.getElem?_set]
  split
  · next h => subst h; simp [hi]
  · rfl
theorem nth_rep {n i : Nat} {x : Int} (h : i < n) : nth (List.replicate n x) i = x := by
  rw [nth_eq (by simpa using h)]; simp
theorem nth_out {l : List Int} {i : Nat} (h : l.length ≤ i) : nth l i = 0 := by simp [nth, List.getElem?_eq_none h]
attribute [simp] svSame scsSame scSame
@[congr] theorem thenO_congr {α β : Type} {x y : Option α} {f : α → Option β} (h : x = y) : thenO x f = thenO y f := by rw [h]
/-! ### drawn regions with writers -/
def someO {α β : Type} (x : Option α) (f : α → Option β) : Option β := match x with
  | some a => f a
  | none => none
@[congr] theorem someO_congr {α β : Type} {x y : Option α} {f : α → Option β} (h : x = y) : someO x f = someO y f := by rw [h]
@[simp] theorem someO_some {α β : Type} (a : α) (f : α → Option β) : someO (some a) f = f a := rfl
theorem draw_more2 (P : Program) (E : Env) (N : Nat) (ops : Array Oper) (C : Cert) (j : Nat) (pl pl' : List Nat × List Nat) (rest : List (List Nat × List Nat)) (τ : St Unit) :
    drawRun P E N ops C j (pl :: pl' :: rest) τ = thenO (phaseRun P E N ops C j pl τ) fun S => someO C.ws[j]? fun i => someO ops[i]? fun o => thenO (writeO P E N ops C i o S) fun S => drawRun P E N ops C (j + 1) (pl' :: rest) S := by
  rw [drawRun]
  cases phaseRun P E N ops C j pl τ with
  | none => rfl
  | some S =>
    simp only [thenO_some]
    cases C.ws[j]? with
    | none => rfl
    | some i =>
      simp only [someO_some]
      cases ops[i]? with
      | none => rfl
      | some o =>
        simp only [someO_some, writeO]
        cases stepEff P E N ops S o with
        | none => simp only; split <;> rfl
        | some e => simp only; split <;> rfl
theorem phase2 (P : Program) (E : Env) (N : Nat) (ops : Array Oper) (C : Cert) (j : Nat) (pl : List Nat × List Nat) (x : Nat × SV Unit) (τ : St Unit) :
    phaseRun P E N ops C j pl (x :: τ) = chkO (rootsOk C j (x :: τ)) (if doAgain P E N ops C (x :: τ) pl.2 = true then doFresh P E N ops C pl.1 (x :: τ) else none) := by
  unfold phaseRun chkO
  cases rootsOk C j (x :: τ) <;> cases doAgain P E N ops C (x :: τ) pl.2 <;> rfl
theorem freshO_put2 (P : Program) (E : Env) (N : Nat) (ops : Array Oper) (C : Cert) (i d : Nat) (o : Oper) (x : Nat × SV Unit) (τ : St Unit) (v : SV Unit) :
    freshO P E N ops C i d o (x :: τ) (effP d v) = chkO ((rdO (x :: τ) ops o).all (okRead C i) && (rootsL v.cs).all (okRead C i)) (some (St.put (x :: τ) d v)) := by
  simp only [freshO, isPut_P, chkO]
theorem freshO_fin2 (P : Program) (E : Env) (N : Nat) (ops : Array Oper) (C : Cert) (i d : Nat) (o : Oper) (x : Nat × SV Unit) (τ : St Unit) (v : SV Unit) :
    freshO P E N ops C i d o (x :: τ) ⟨[(d, v)], [(d, [])], []⟩ = chkO ((rdO (x :: τ) ops o).all (okRead C i) && (rootsL v.cs).all (okRead C i)) (some (St.put (x :: τ) d v)) := freshO_put2 P E N ops C i d o x τ v
theorem writeO2 (P : Program) (E : Env) (N : Nat) (ops : Array Oper) (C : Cert) (i : Nat) (o : Oper) (x : Nat × SV Unit) (S : St Unit) : writeO P E N ops C i o (x :: S) = chkO ((rdO (x :: S) ops o).all (okRead C i)) (thenO (stepEff P E N ops (x :: S) o) (appE (x :: S))) := rfl
section
variable {P : Program} {E : Env} {N id : Nat} {t : List (Nat × RC)} {ops : Array Oper} {a b : Code} {rc : RC} {σ σ1 σ2 : St Unit} {Q : Ex → St Unit → Prop}
theorem gm (h : RP (regOf P E N t) b σ2 Q) (hl : t.lookup id = some rc := by rfl) (hs : drawRun P E N ops rc.cert 0 rc.plan σ = some σ1 := by simp (maxSteps := 4000000) (disch := first | (apply chkI; kernel_rfl) | omega | simp) [-phaseRun, -rootsOk, -draw_more, draw_more2, phase2, -freshO_put, freshO_put2, freshO_fin2, -writeO, writeO2]; rfl) (hp : St.pick rc.keep σ1 = σ2 := by simp; rfl) :
    RP (regOf P E N t) (.seq (.region id ops true) b) σ Q := by subst hp; exact sd hl hs h
theorem gn (h : Q .normal σ2) (hl : t.lookup id = some rc := by rfl) (hs : drawRun P E N ops rc.cert 0 rc.plan σ = some σ1 := by simp (maxSteps := 4000000) (disch := first | (apply chkI; kernel_rfl) | omega | simp) [-phaseRun, -rootsOk, -draw_more, draw_more2, phase2, -freshO_put, freshO_put2, freshO_fin2, -writeO, writeO2]; rfl) (hp : St.pick rc.keep σ1 = σ2 := by simp; rfl) :
    RP (regOf P E N t) (.region id ops true) σ Q := by subst hp; exact rp_reg_draw hl hs h
end
end Go.Proofs.Ytngglgkemonibaa.L
