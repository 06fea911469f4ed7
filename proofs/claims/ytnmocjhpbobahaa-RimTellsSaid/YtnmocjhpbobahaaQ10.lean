/- S6: more rules. S7: making rows. S8: cuts and graphs that are built. S9: rows of rows of one's own. -/
import Derived.Test.YtnmocjhpbobahaaQ9
set_option linter.unusedVariables false
set_option linter.unusedSimpArgs false
set_option linter.unnecessarySimpa false
namespace Go.Proofs.Ytnmocjhpbobahaa.L
open Go Go.RowKit
set_option maxRecDepth 100000
@[simp] theorem get_none (s : Nat) : St.get ([] : St Unit) s = SV.dead := rfl
attribute [simp] freezeL allOwnL
theorem ent_take {es : List (Int × Int)} {i : Nat} (h : i < es.length) : es.take (i + 1) = es.take i ++ [ent es i] := by
  rw [List.take_add_one, ent_eq h]; simp [h]
theorem nth_take {l : List Int} {i : Nat} (h : i < l.length) : l.take (i + 1) = l.take i ++ [nth l i] := by
  rw [List.take_add_one, nth_eq h]; simp [h]
theorem nthR_take {l : List (List Int)} {i : Nat} (h : i < l.length) : l.take (i + 1) = l.take i ++ [nthR l i] := by
  rw [List.take_add_one, nthR_eq h]; simp [h]
@[simp] theorem toNat_pred (n : Nat) : ((n : Int) - 1).toNat = n - 1 := by omega
@[simp] theorem putD_fin (C : Cert) (i d : Nat) (ops : Array Oper) (o : Oper) (τ : St Unit) (v : SV Unit) : putD C i d ops o τ ⟨[(d, v)], [(d, [])], []⟩ = chkO ((rdO τ ops o).all (okRead C i) && (rootsL v.cs).all (okRead C i)) (some (τ.put d v)) := putD_P C i d ops o τ v
/-! ### drawn regions whose last operation writes -/
def seqW (P : Program) (E : Env) (N : Nat) (ops : Array Oper) (C : Cert) : Nat → List Oper → St Unit → Option (St Unit)
  | _, [], _ => none
  | i, [o], τ => writeO P E N ops C i o τ
  | i, o :: l, τ => match o.dst with
    | some d => thenO (stepEff P E N ops τ o) fun e => thenO (putD C i d ops o τ e) (seqW P E N ops C (i + 1) l)
    | none => none
@[simp] theorem seqW_one (P : Program) (E : Env) (N : Nat) (ops : Array Oper) (C : Cert) (i : Nat) (o : Oper) (τ : St Unit) : seqW P E N ops C i [o] τ = writeO P E N ops C i o τ := rfl
@[simp] theorem seqW_cons (P : Program) (E : Env) (N : Nat) (ops : Array Oper) (C : Cert) (i d : Nat) (op : Op) (ty : TypeId) (pos : String) (af : Array Edge) (g : Option (Nat × Bool)) (o' : Oper) (l : List Oper) (x : Nat × SV Unit) (τ : St Unit) :
    seqW P E N ops C i (⟨some d, op, ty, pos, af, g⟩ :: o' :: l) (x :: τ) = thenO (stepEff P E N ops (x :: τ) ⟨some d, op, ty, pos, af, g⟩) fun e => thenO (putD C i d ops ⟨some d, op, ty, pos, af, g⟩ (x :: τ) e) (seqW P E N ops C (i + 1) (o' :: l)) := rfl
theorem seqW_ok {P : Program} {E : Env} {N : Nat} {ops : Array Oper} {C : Cert} : ∀ (l : List Oper) (i : Nat) (τ τ' : St Unit), (∀ k, k < l.length → ops[i + k]? = l[k]?) → seqW P E N ops C i l τ = some τ' →
    ∃ S o, l ≠ [] ∧ doFresh P E N ops C ((List.range (l.length - 1)).map (i + ·)) τ = some S ∧ ops[i + (l.length - 1)]? = some o ∧ writeO P E N ops C (i + (l.length - 1)) o S = some τ'
  | [], i, τ, τ', _, h => by simp [seqW] at h
  | [o], i, τ, τ', hl, h => by
    have h0 := hl 0 (by simp)
    exact ⟨τ, o, by simp, by simp [doFresh], by simpa using h0, by simpa using h⟩
  | o :: o' :: l, i, τ, τ', hl, h => by
    have h0 := hl 0 (by simp)
    simp only [Nat.add_zero, List.getElem?_cons_zero] at h0
    simp only [seqW] at h
    cases hd : o.dst with
    | none => rw [hd] at h; cases h
    | some d =>
      rw [hd] at h
      simp only at h
      cases he : stepEff P E N ops τ o with
      | none => rw [he] at h; cases h
      | some e =>
        rw [he] at h
        simp only [thenO_some, putD] at h
        cases hp : isPut e d with
        | none => rw [hp] at h; cases h
        | some v =>
          rw [hp] at h
          simp only [chkO] at h
          split at h
          · next hc =>
            obtain ⟨S, o2, _, h1, h2, h3⟩ := seqW_ok (o' :: l) (i + 1) _ τ' (fun k hk => by have := hl (k + 1) (by simpa using hk); rw [show i + 1 + k = i + (k + 1) by omega]; simpa using this) h
            refine ⟨S, o2, by simp, ?_, ?_, ?_⟩
            · rw [show (o :: o' :: l).length - 1 = (o' :: l).length - 1 + 1 by simp, List.range_succ_eq_map, List.map_cons, List.map_map, Nat.add_zero]
              simp only [doFresh, h0, hd, he, hp]
              rw [if_pos hc, ← h1]
              congr 1
              apply List.map_congr_left
              intro k _
              simp only [Function.comp]; omega
            · rw [← h2]; congr 1; simp; omega
            · rw [show i + ((o :: o' :: l).length - 1) = i + 1 + ((o' :: l).length - 1) by simp; omega]; exact h3
          · cases h
def shapeW (ops : Array Oper) (rc : RC) : Bool := rc.plan == [(List.range (ops.size - 1), []), ([], [])] && rc.cert.ws == [ops.size - 1]
theorem drawW {P : Program} {E : Env} {N : Nat} {ops : Array Oper} {rc : RC} {σ σ1 : St Unit} (hs : shapeW ops rc = true) (h0 : rootsOk rc.cert 0 σ = true) (h : seqW P E N ops rc.cert 0 ops.toList σ = some σ1) (h1 : rootsOk rc.cert 1 σ1 = true) :
    drawRun P E N ops rc.cert 0 rc.plan σ = some σ1 := by
  simp only [shapeW, Bool.and_eq_true, beq_iff_eq] at hs
  obtain ⟨hp, hw⟩ := hs
  obtain ⟨S, o, _, a1, a2, a3⟩ := seqW_ok ops.toList 0 σ σ1 (fun k hk => by simp) h
  rw [Array.length_toList] at a1 a2 a3
  rw [Nat.zero_add] at a2 a3
  have a1' : doFresh P E N ops rc.cert (List.range (ops.size - 1)) σ = some S := by
    rw [← a1]; congr 1; simp
  rw [hp, draw_more P E N ops rc.cert 0 _ _ _ σ (ops.size - 1) o (by rw [hw]; rfl) a2]
  unfold phaseRun
  rw [h0]
  simp only [doAgain, Bool.and_self, if_true, a1', thenO_some, a3, draw_one, phaseRun, h1, doFresh]
section
variable {P : Program} {E : Env} {N id : Nat} {t : List (Nat × RC)} {ops : Array Oper} {a b : Code} {rc : RC} {σ σ1 σ2 : St Unit} {Q : Ex → St Unit → Prop}
theorem gW (h : RP (regOf P E N t) b σ2 Q) (hl : t.lookup id = some rc := by rfl) (hn : shapeW ops rc = true := by rfl) (h0 : rootsOk rc.cert 0 σ = true := by kernel_rfl) (hs : seqW P E N ops rc.cert 0 ops.toList σ = some σ1 := by simp (disch := first | (apply chkI; kernel_rfl) | omega | simp) [-RC.d]; rfl) (h1 : rootsOk rc.cert 1 σ1 = true := by kernel_rfl) (hp : St.pick rc.keep σ1 = σ2 := by simp; rfl) :
    RP (regOf P E N t) (.seq (.region id ops true) b) σ Q := by subst hp; exact sd hl (drawW hn h0 hs h1) h
theorem gV (h : Q .normal σ2) (hl : t.lookup id = some rc := by rfl) (hn : shapeW ops rc = true := by rfl) (h0 : rootsOk rc.cert 0 σ = true := by kernel_rfl) (hs : seqW P E N ops rc.cert 0 ops.toList σ = some σ1 := by simp (disch := first | (apply chkI; kernel_rfl) | omega | simp) [-RC.d]; rfl) (h1 : rootsOk rc.cert 1 σ1 = true := by kernel_rfl) (hp : St.pick rc.keep σ1 = σ2 := by simp; rfl) :
    RP (regOf P E N t) (.region id ops true) σ Q := by subst hp; exact rp_reg_draw hl (drawW hn h0 hs h1) h
end
end Go.Proofs.Ytnmocjhpbobahaa.L
namespace Go.Proofs.Ytnmocjhpbobahaa.L
open Go Go.RowKit
set_option maxRecDepth 100000
@[simp] theorem flat_rep (n : Nat) : (List.replicate n [(.sc (.int .i64 0) : Cell Unit)]).flatten = IL (List.replicate n 0) := by
  induction n with
  | zero => rfl
  | succ n ih => simp only [List.replicate_succ, List.flatten_cons, ih]; rfl
@[simp] theorem rep_IL (n : Nat) (v : Int) : List.replicate n (.sc (.int .i64 v) : Cell Unit) = IL (List.replicate n v) := by simp [IL]
attribute [simp] effMake
theorem nth_set {l : List Int} {i j : Nat} {x : Int} (hi : i < l.length) : nth (l.set i x) j = if i = j then x else nth l j := by
  unfold nth
  rw [List.getD_eq_getElem?_getD, List.getD_eq_getElem?_getD, List.getElem?_set]
  split
  · next h => subst h; simp [hi]
  · rfl
attribute [simp] svSame scsSame scSame
@[congr] theorem thenO_congr {α β : Type} {x y : Option α} {f : α → Option β} (h : x = y) : thenO x f = thenO y f := by rw [h]
/-! ### drawn regions with writers -/
def someO {α β : Type} (x : Option α) (f : α → Option β) : Option β := match x with
  | some a => f a
  | none => none
@[congr] theorem someO_congr {α β : Type} {x y : Option α} {f : α → Option β} (h : x = y) : someO x f = someO y f := by rw [h]
@[simp] theorem someO_some {α β : Type} (a : α) (f : α → Option β) : someO (some a) f = f a := (rfl)
theorem draw_more2 (P : Program) (E : Env) (N : Nat) (ops : Array Oper) (C : Cert) (j : Nat) (pl pl' : List Nat × List Nat) (rest : List (List Nat × List Nat)) (τ : St Unit) :
    drawRun P E N ops C j (pl :: pl' :: rest) τ = thenO (phaseRun P E N ops C j pl τ) fun S => someO C.ws[j]? fun i => someO ops[i]? fun o => thenO (writeO P E N ops C i o S) fun S => drawRun P E N ops C (j + 1) (pl' :: rest) S := by
  rw [drawRun]
  cases phaseRun P E N ops C j pl τ with
  | none => rfl
  | some S =>
    simp only [thenO_some]
    cases C.ws[j]? with
    | none => rfl
    | some i =>
      simp only [someO_some]
      cases ops[i]? with
      | none => rfl
      | some o =>
        simp only [someO_some, writeO]
        cases stepEff P E N ops S o with
        | none => simp only; split <;> rfl
        | some e => simp only; split <;> rfl
theorem phase2 (P : Program) (E : Env) (N : Nat) (ops : Array Oper) (C : Cert) (j : Nat) (pl : List Nat × List Nat) (x : Nat × SV Unit) (τ : St Unit) :
    phaseRun P E N ops C j pl (x :: τ) = chkO (rootsOk C j (x :: τ)) (if doAgain P E N ops C (x :: τ) pl.2 = true then doFresh P E N ops C pl.1 (x :: τ) else none) := by
  unfold phaseRun chkO
  cases rootsOk C j (x :: τ) <;> cases doAgain P E N ops C (x :: τ) pl.2 <;> rfl
theorem freshO_put2 (P : Program) (E : Env) (N : Nat) (ops : Array Oper) (C : Cert) (i d : Nat) (o : Oper) (x : Nat × SV Unit) (τ : St Unit) (v : SV Unit) :
    freshO P E N ops C i d o (x :: τ) (effP d v) = chkO ((rdO (x :: τ) ops o).all (okRead C i) && (rootsL v.cs).all (okRead C i)) (some (St.put (x :: τ) d v)) := by
  simp only [freshO, isPut_P, chkO]
theorem freshO_fin2 (P : Program) (E : Env) (N : Nat) (ops : Array Oper) (C : Cert) (i d : Nat) (o : Oper) (x : Nat × SV Unit) (τ : St Unit) (v : SV Unit) :
    freshO P E N ops C i d o (x :: τ) ⟨[(d, v)], [(d, [])], []⟩ = chkO ((rdO (x :: τ) ops o).all (okRead C i) && (rootsL v.cs).all (okRead C i)) (some (St.put (x :: τ) d v)) := freshO_put2 P E N ops C i d o x τ v
theorem writeO2 (P : Program) (E : Env) (N : Nat) (ops : Array Oper) (C : Cert) (i : Nat) (o : Oper) (x : Nat × SV Unit) (S : St Unit) : writeO P E N ops C i o (x :: S) = chkO ((rdO (x :: S) ops o).all (okRead C i)) (thenO (stepEff P E N ops (x :: S) o) (appE (x :: S))) := rfl
section
variable {P : Program} {E : Env} {N id : Nat} {t : List (Nat × RC)} {ops : Array Oper} {a b : Code} {rc : RC} {σ σ1 σ2 : St Unit} {Q : Ex → St Unit → Prop}
theorem gm (h : RP (regOf P E N t) b σ2 Q) (hl : t.lookup id = some rc := by rfl) (hs : drawRun P E N ops rc.cert 0 rc.plan σ = some σ1 := by simp (maxSteps := 4000000) (disch := first | (apply chkI; kernel_rfl) | omega | simp) [-phaseRun, -rootsOk, -draw_more, draw_more2, phase2, -freshO_put, freshO_put2, freshO_fin2, -writeO, writeO2]; rfl) (hp : St.pick rc.keep σ1 = σ2 := by simp; rfl) :
    RP (regOf P E N t) (.seq (.region id ops true) b) σ Q := by subst hp; exact sd hl hs h
theorem gn (h : Q .normal σ2) (hl : t.lookup id = some rc := by rfl) (hs : drawRun P E N ops rc.cert 0 rc.plan σ = some σ1 := by simp (maxSteps := 4000000) (disch := first | (apply chkI; kernel_rfl) | omega | simp) [-phaseRun, -rootsOk, -draw_more, draw_more2, phase2, -freshO_put, freshO_put2, freshO_fin2, -writeO, writeO2]; rfl) (hp : St.pick rc.keep σ1 = σ2 := by simp; rfl) :
    RP (regOf P E N t) (.region id ops true) σ Q := by subst hp; exact rp_reg_draw hl hs h
end
end Go.Proofs.Ytnmocjhpbobahaa.L
namespace Go.Proofs.Ytnmocjhpbobahaa.L
open Go Go.RowKit
set_option maxRecDepth 100000
@[simp] theorem min_lit (a k : Nat) : min (a : Int) (no_index (@OfNat.ofNat Int k (@instOfNat k))) = ((min a (@OfNat.ofNat Nat k (instOfNatNat k)) : Nat) : Int) := by
  show min (a : Int) (k : Int) = ((min a k : Nat) : Int)
  omega
@[simp] theorem EL_take2 (es : List (Int × Int)) (k : Nat) : (EL es).take (k * 2) = EL (es.take k) := by
  induction es generalizing k with
  | nil => simp [EL]
  | cons e l ih =>
    cases k with
    | zero => simp [EL]
    | succ k => rw [show (k + 1) * 2 = k * 2 + 1 + 1 by omega]; simp only [EL, List.take_succ_cons, ih]
@[simp] theorem EL_nil : EL [] = [] := rfl
@[simp] theorem zok46 : zeroOk Try.prog 57 = true := by kernel_rfl
@[simp] theorem bytes46 : Try.prog.bytesOf 57 = 16 := by kernel_rfl
@[simp] theorem zok25 : zeroOk Try.prog 39 = true := by kernel_rfl
@[simp] theorem bytes25 : Try.prog.bytesOf 39 = 24 := by kernel_rfl
@[simp] theorem zero25 : zeroCellsOf Try.prog () 39 = some [.sl true 1 () []] := by kernel_rfl
@[simp] theorem iteF {α : Type} {p : Prop} [Decidable p] {a : Option α} (h : ¬ p) : (if p then none else a) = a := if_neg h
@[simp] theorem IL_tail (l : List Int) : (IL l).tail = IL l.tail := by cases l <;> rfl
@[simp] theorem IL_nth1 (l : List Int) (h : 1 < l.length) : (IL (l.tail.take 1)).map SC.c = [.c (.sc (.int .i64 (nth l 1)))] := by
  have := IL_nth l 1 h
  rwa [List.drop_one] at this
end Go.Proofs.Ytnmocjhpbobahaa.L
namespace Go.Proofs.Ytnmocjhpbobahaa.L
open Go Go.RowKit
set_option maxRecDepth 100000
def OL (l : List (List Int)) : List (Cell Unit) := l.map fun r => .sl true 1 () (IL r)
@[simp] theorem OL_length (l : List (List Int)) : (OL l).length = l.length := by simp [OL]
@[simp] theorem freezeL_OL : ∀ l : List (List Int), freezeL (OL l) = RL l
  | [] => rfl
  | n :: l => by have := freezeL_OL l; simp only [OL, RL, List.map_cons, freezeL, Cell.freeze, freezeL_IL] at this ⊢; rw [this]
@[simp] theorem allOwn_OL : ∀ l : List (List Int), allOwnL (OL l) = true
  | [] => rfl
  | n :: l => by have := allOwn_OL l; simp only [OL, List.map_cons, allOwnL, Cell.allOwn, allOwn_IL] at this ⊢; rw [this]; rfl
@[simp] theorem OL_get (l : List (List Int)) (k : Nat) (h : k < l.length) : (OL l)[k]? = some (.sl true 1 () (IL (nthR l k))) := by
  simp [OL, nthR, h]
@[simp] theorem OL_nth (l : List (List Int)) (k : Nat) (h : k < l.length) : ((OL l).drop k).take 1 = [.sl true 1 () (IL (nthR l k))] := by
  rw [OL, ← List.map_drop, ← List.map_take]
  have : List.take 1 (List.drop k l) = [l[k]] := by rw [List.drop_eq_getElem_cons h]; rfl
  rw [this]
  simp [nthR, h]
@[simp] theorem OL_set (l : List (List Int)) (k : Nat) (r : List Int) : (OL l).set k (.sl true 1 () (IL r)) = OL (l.set k r) := by simp [OL]
@[simp] theorem OL_app1 (l : List (List Int)) (r : List Int) : OL l ++ [.sl true 1 () (IL r)] = OL (l ++ [r]) := by simp [OL]
@[simp] theorem OL_mem_alive (l : List (List Int)) : (∀ x : Cell Unit, x ∈ OL l → x.isDead = false) = True := eq_true (fun x hx => by
  simp only [OL, List.mem_map] at hx; obtain ⟨r, _, rfl⟩ := hx; rfl)
@[simp] theorem OL_rep (n : Nat) : (List.replicate n (.sl true 1 () [] : Cell Unit)) = OL (List.replicate n []) := by simp [OL, IL]
@[simp] theorem OL_flat (n : Nat) : (List.replicate n [(.sl true 1 () [] : Cell Unit)]).flatten = OL (List.replicate n []) := by
  induction n with
  | zero => rfl
  | succ n ih => simp only [List.replicate_succ, List.flatten_cons, ih]; rfl
abbrev orows (l : List (List Int)) : SV Unit := ⟨.one, [.c (.sl true 1 () (OL l))]⟩
@[simp] theorem bytes36 : Try.prog.bytesOf 39 = 24 := by kernel_rfl
@[simp] theorem zero24 : zeroCellsOf Try.prog () 26 = some [.sc (.int .i64 0), .sl true 2 () []] := by kernel_rfl
@[simp] theorem infos46 : infosOk Try.prog 57 = true := by kernel_rfl
@[simp] theorem infos24 : infosOk Try.prog 26 = true := by kernel_rfl
attribute [simp] effBuild seeParts
end Go.Proofs.Ytnmocjhpbobahaa.L
