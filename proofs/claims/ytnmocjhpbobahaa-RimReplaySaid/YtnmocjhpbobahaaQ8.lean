/- S3: graphs as arguments. S4: steps that do themselves. S5: calls; graphs and rows of rows as arguments. S6: more rules. S7: making rows. S8: cuts and graphs that are built. S9: rows of rows of one's own. S10: a slice that shows something against nil. S11: int to uint and back; half. S12: loops of few rounds; rows of truth values; arrays of three. CL: rows of cuts (six numbers each), traces, states. -/
import Derived.Test.YtnmocjhpbobahaaQ7
set_option linter.unusedVariables false
set_option linter.unusedSimpArgs false
set_option linter.unnecessarySimpa false
namespace Go.Proofs.Ytnmocjhpbobahaa.L
open Go Go.RowKit
set_option maxRecDepth 100000

/-- Edges as cells. -/
def EL : List (Int × Int) → List (Cell Unit)
  | [] => []
  | e :: l => .sc (.int .i64 e.1) :: .sc (.int .i64 e.2) :: EL l
@[simp] theorem EL_length (es : List (Int × Int)) : (EL es).length = es.length * 2 := by
  induction es with
  | nil => rfl
  | cons e l ih => simp only [EL, List.length_cons, ih]; omega
theorem EL_mem (es : List (Int × Int)) : ∀ x ∈ EL es, ∃ n, x = .sc (.int .i64 n) := by
  induction es with
  | nil => simp [EL]
  | cons e l ih =>
    intro x hx
    simp only [EL, List.mem_cons] at hx
    rcases hx with rfl | rfl | hx
    · exact ⟨_, rfl⟩
    · exact ⟨_, rfl⟩
    · exact ih x hx
@[simp] theorem EL_copy (es : List (Int × Int)) : (EL es).all Cell.copyable = true := by
  rw [List.all_eq_true]; intro x hx; obtain ⟨n, rfl⟩ := EL_mem es x hx; rfl
@[simp] theorem EL_mem_copy (es : List (Int × Int)) : (∀ x : Cell Unit, x ∈ EL es → x.copyable = true) = True := eq_true (fun x hx => by obtain ⟨n, rfl⟩ := EL_mem es x hx; rfl)
theorem EL_drop (es : List (Int × Int)) : ∀ i, (EL es).drop (i * 2) = EL (es.drop i) := by
  induction es with
  | nil => intro i; simp [EL]
  | cons e l ih =>
    intro i
    cases i with
    | zero => simp
    | succ i => rw [show (i + 1) * 2 = i * 2 + 1 + 1 by omega]; simp only [EL, List.drop_succ_cons]; exact ih i
theorem EL_two (es : List (Int × Int)) (i : Nat) (h : i < es.length) : ((EL es).drop (i * 2)).take 2 = [.sc (.int .i64 (es.getD i (0, 0)).1), .sc (.int .i64 (es.getD i (0, 0)).2)] := by
  rw [EL_drop, List.drop_eq_getElem_cons h]
  simp [EL, List.getD_eq_getElem?_getD, h]
theorem EL_fst (es : List (Int × Int)) (i : Nat) (h : i < es.length) : ((EL es).drop (i * 2)).take 1 = [.sc (.int .i64 (es.getD i (0, 0)).1)] := by
  rw [EL_drop, List.drop_eq_getElem_cons h]
  simp [EL, List.getD_eq_getElem?_getD, h]
theorem EL_snd (es : List (Int × Int)) (i : Nat) (h : i < es.length) : ((EL es).drop (i * 2 + 1)).take 1 = [.sc (.int .i64 (es.getD i (0, 0)).2)] := by
  rw [← List.drop_drop, EL_drop, List.drop_eq_getElem_cons h]
  simp [EL, List.getD_eq_getElem?_getD, h]
abbrev gr (n : Int) (es : List (Int × Int)) : SV Unit := ⟨.agg, [.c (.sc (.int .i64 n)), .c (.sl false 2 () (EL es))]⟩

@[simp] theorem und24 : Try.prog.underlying 26 = some (.struct #[⟨"N", 3, 0, false, "", "", 0⟩, ⟨"E", 22, 1, false, "", "", 8⟩]) := by kernel_rfl
@[simp] theorem und22 : Try.prog.underlying 22 = some (.slice 57) := by kernel_rfl
@[simp] theorem und46 : Try.prog.underlying 57 = some (.struct #[⟨"A", 3, 0, false, "", "", 0⟩, ⟨"B", 3, 1, false, "", "", 8⟩]) := by kernel_rfl
@[simp] theorem und36 : Try.prog.underlying 90 = some (.slice 39) := by kernel_rfl
@[simp] theorem cells24 : Try.prog.cellsOf 26 = 2 := by kernel_rfl
@[simp] theorem cells22 : Try.prog.cellsOf 22 = 1 := by kernel_rfl
@[simp] theorem cells46 : Try.prog.cellsOf 57 = 2 := by kernel_rfl
@[simp] theorem cells36 : Try.prog.cellsOf 90 = 1 := by kernel_rfl
@[simp] theorem zero46 : zeroCellsOf Try.prog () 57 = some [.sc (.int .i64 0), .sc (.int .i64 0)] := by kernel_rfl
attribute [simp] effBox effAlloc seen
abbrev okE (n : Int) (e : Int × Int) : Prop := 0 ≤ e.1 ∧ e.2 < n ∧ e.1 < e.2
abbrev ltE (e f : Int × Int) : Prop := e.1 < f.1 ∨ (e.1 = f.1 ∧ e.2 < f.2)
/-- A graph that is right. -/
def RightG (n : Int) (es : List (Int × Int)) : Prop := (0 ≤ n ∧ n ≤ 1000 ∧ es.length ≤ 4000) ∧ ∀ i, i < es.length → okE n (es.getD i (0, 0)) ∧ (0 < i → ltE (es.getD (i - 1) (0, 0)) (es.getD i (0, 0)))
instance (n : Int) (es : List (Int × Int)) : Decidable (RightG n es) := by unfold RightG; infer_instance
end Go.Proofs.Ytnmocjhpbobahaa.L
namespace Go.Proofs.Ytnmocjhpbobahaa.L
open Go Go.RowKit
set_option maxRecDepth 100000

@[simp] theorem iteT {α : Type} {p : Prop} [Decidable p] {a : Option α} (h : p) : (if p then a else none) = a := if_pos h
@[simp] theorem decT {p : Prop} [Decidable p] (h : p) : decide p = true := decide_eq_true h
@[simp] theorem decF {p : Prop} [Decidable p] (h : ¬ p) : decide p = false := decide_eq_false h
/-! ### drawn regions without writers, operation by operation -/
def chkO {β : Type} (b : Bool) (x : Option β) : Option β := if b = true then x else none
/-- A check that the kernel runs. -/
structure Chk (b : Bool) : Prop where
  out : b = true
theorem chkI {b : Bool} (h : b = true) : Chk b := ⟨h⟩
@[simp ↓] theorem chkO_true {β : Type} {b : Bool} {x : Option β} (h : Chk b) : chkO b x = x := by simp [chkO, h.out]
def putD (C : Cert) (i d : Nat) (ops : Array Oper) (o : Oper) (τ : St Unit) (e : Eff Unit) : Option (St Unit) := match isPut e d with
  | some v => chkO ((rdO τ ops o).all (okRead C i) && (rootsL v.cs).all (okRead C i)) (some (τ.put d v))
  | none => none
@[simp] theorem putD_P (C : Cert) (i d : Nat) (ops : Array Oper) (o : Oper) (τ : St Unit) (v : SV Unit) : putD C i d ops o τ (effP d v) = chkO ((rdO τ ops o).all (okRead C i) && (rootsL v.cs).all (okRead C i)) (some (τ.put d v)) := by
  simp only [putD, isPut_P]
def seqD (P : Program) (E : Env) (N : Nat) (ops : Array Oper) (C : Cert) : Nat → List Oper → St Unit → Option (St Unit)
  | _, [], τ => some τ
  | i, o :: l, τ => match o.dst with
    | some d => thenO (stepEff P E N ops τ o) fun e => thenO (putD C i d ops o τ e) (seqD P E N ops C (i + 1) l)
    | none => none
@[simp] theorem seqD_nil (P : Program) (E : Env) (N : Nat) (ops : Array Oper) (C : Cert) (i : Nat) (τ : St Unit) : seqD P E N ops C i [] τ = some τ := rfl
@[simp] theorem seqD_cons (P : Program) (E : Env) (N : Nat) (ops : Array Oper) (C : Cert) (i d : Nat) (op : Op) (ty : TypeId) (pos : String) (af : Array Edge) (g : Option (Nat × Bool)) (l : List Oper) (x : Nat × SV Unit) (τ : St Unit) :
    seqD P E N ops C i (⟨some d, op, ty, pos, af, g⟩ :: l) (x :: τ) = thenO (stepEff P E N ops (x :: τ) ⟨some d, op, ty, pos, af, g⟩) fun e => thenO (putD C i d ops ⟨some d, op, ty, pos, af, g⟩ (x :: τ) e) (seqD P E N ops C (i + 1) l) := rfl
theorem seqD_ok {P : Program} {E : Env} {N : Nat} {ops : Array Oper} {C : Cert} : ∀ (l : List Oper) (i : Nat) (τ τ' : St Unit), (∀ k, k < l.length → ops[i + k]? = l[k]?) → seqD P E N ops C i l τ = some τ' → doFresh P E N ops C ((List.range l.length).map (i + ·)) τ = some τ'
  | [], i, τ, τ', _, h => by simpa [seqD, doFresh] using h
  | o :: l, i, τ, τ', hl, h => by
    have h0 := hl 0 (by simp)
    simp only [Nat.add_zero, List.getElem?_cons_zero] at h0
    rw [List.length_cons, List.range_succ_eq_map, List.map_cons, List.map_map, Nat.add_zero]
    simp only [seqD] at h
    cases hd : o.dst with
    | none => rw [hd] at h; cases h
    | some d =>
      rw [hd] at h
      simp only at h
      cases he : stepEff P E N ops τ o with
      | none => rw [he] at h; cases h
      | some e =>
        rw [he] at h
        simp only [thenO_some, putD] at h
        simp only [doFresh, h0, hd, he]
        cases hp : isPut e d with
        | none => rw [hp] at h; cases h
        | some v =>
          rw [hp] at h
          simp only [chkO] at h ⊢
          split at h
          · next hc =>
            rw [if_pos hc]
            have := seqD_ok l (i + 1) _ τ' (fun k hk => by have := hl (k + 1) (by simpa using hk); rw [show i + 1 + k = i + (k + 1) by omega]; simpa using this) h
            rw [← this]
            congr 1
            apply List.map_congr_left
            intro k _
            simp only [Function.comp]; omega
          · cases h
theorem drawD {P : Program} {E : Env} {N : Nat} {ops : Array Oper} {keep A dsts : List Nat} {σ σ1 : St Unit} (hn : dsts.length = ops.size) (h0 : rootsOk (RC.d keep A dsts).cert 0 σ = true) (h : seqD P E N ops (RC.d keep A dsts).cert 0 ops.toList σ = some σ1) :
    drawRun P E N ops (RC.d keep A dsts).cert 0 (RC.d keep A dsts).plan σ = some σ1 := by
  have := seqD_ok ops.toList 0 σ σ1 (fun k hk => by simp) h
  rw [show (RC.d keep A dsts).plan = [(List.range dsts.length, [])] from rfl, draw_one]
  unfold phaseRun
  rw [h0]
  simp only [doAgain, Bool.and_self, if_true]
  rw [← this, hn]
  congr 1
  rw [Array.length_toList]
  simp
section
variable {P : Program} {E : Env} {N id : Nat} {t : List (Nat × RC)} {ops : Array Oper} {a b : Code} {rc : RC} {σ σ1 σ2 : St Unit} {Q : Ex → St Unit → Prop} {x : Operand}
/-- a region, and what follows -/
theorem gs (h : RP (regOf P E N t) b σ2 Q) (hl : t.lookup id = some rc := by rfl) (hs : seqL P E N ops ops.toList σ = some σ1 := by simp (disch := first | (apply chkI; kernel_rfl) | omega | simp); rfl) (hp : St.pick rc.keep σ1 = σ2 := by simp; rfl) :
    RP (regOf P E N t) (.seq (.region id ops false) b) σ Q := by subst hp; exact sr hl hs h
theorem gD {keep A dsts : List Nat} (h : RP (regOf P E N t) b σ2 Q) (hl : t.lookup id = some (RC.d keep A dsts) := by rfl) (hn : dsts.length = ops.size := by kernel_rfl) (h0 : rootsOk (RC.d keep A dsts).cert 0 σ = true := by kernel_rfl) (hs : seqD P E N ops (RC.d keep A dsts).cert 0 ops.toList σ = some σ1 := by simp (disch := first | (apply chkI; kernel_rfl) | omega | simp) [-RC.d]; rfl) (hp : St.pick keep σ1 = σ2 := by simp; rfl) :
    RP (regOf P E N t) (.seq (.region id ops true) b) σ Q := by subst hp; exact sd hl (drawD hn h0 hs) h
theorem gG {keep A dsts : List Nat} (h : Q .normal σ2) (hl : t.lookup id = some (RC.d keep A dsts) := by rfl) (hn : dsts.length = ops.size := by kernel_rfl) (h0 : rootsOk (RC.d keep A dsts).cert 0 σ = true := by kernel_rfl) (hs : seqD P E N ops (RC.d keep A dsts).cert 0 ops.toList σ = some σ1 := by simp (disch := first | (apply chkI; kernel_rfl) | omega | simp) [-RC.d]; rfl) (hp : St.pick keep σ1 = σ2 := by simp; rfl) :
    RP (regOf P E N t) (.region id ops true) σ Q := by subst hp; exact rp_reg_draw hl (drawD hn h0 hs) h
/-- a region at the end -/
theorem ge (h : Q .normal σ2) (hl : t.lookup id = some rc := by rfl) (hs : seqL P E N ops ops.toList σ = some σ1 := by simp (disch := first | (apply chkI; kernel_rfl) | omega | simp); rfl) (hp : St.pick rc.keep σ1 = σ2 := by simp; rfl) :
    RP (regOf P E N t) (.region id ops false) σ Q := by subst hp; exact rp_reg_seq hl hs h
theorem gT {reg : Reg} (h : RP reg a σ Q) (hx : valOf σ x = some (.bool true) := by simp (disch := first | (apply chkI; kernel_rfl) | omega | simp) <;> fail) : RP reg (.cond x a b) σ Q := condT hx h
theorem gF {reg : Reg} (h : RP reg b σ Q) (hx : valOf σ x = some (.bool false) := by simp (disch := first | (apply chkI; kernel_rfl) | omega | simp) <;> fail) : RP reg (.cond x a b) σ Q := condF hx h
theorem gskip {reg : Reg} (h : RP reg b σ Q) : RP reg (.seq .skip b) σ Q := rp_seq (rp_skip h)
theorem nxt {I : Nat → St Unit → Prop} {k : Nat} (k' : Nat) (h : k' < k) (hI : I k' σ) : nextR I k Q .normal σ := ⟨k', h, hI⟩
theorem fin_ret {fn : Func} {r : SV Unit} {xs : List (Kd × List (Cell Unit))} {d : Pend Unit} (hQ : endsAs P fn r = Q) (h1 : resAll P σ pend0 fn.results.toList = some (xs, d)) (h2 : resSV xs = r) : Q .ret σ := by
  subst hQ; exact ⟨.inr rfl, xs, d, h1, h2⟩
end
/-- A place of a row (closed to simp). -/
def nth (l : List Int) (i : Nat) : Int := l.getD i 0
theorem nth_eq {l : List Int} {i : Nat} (h : i < l.length) : nth l i = l[i] := by simp [nth, h]
@[simp] theorem IL_nth (l : List Int) (k : Nat) (h : k < l.length) : (IL ((l.drop k).take 1)).map SC.c = [.c (.sc (.int .i64 (nth l k)))] := IL_one l k h
def ent (es : List (Int × Int)) (i : Nat) : Int × Int := es.getD i (0, 0)
theorem ent_eq {es : List (Int × Int)} {i : Nat} (h : i < es.length) : ent es i = es[i] := by simp [ent, h]
@[simp] theorem EL_ent (es : List (Int × Int)) (i : Nat) (h : i < es.length) : ((EL es).drop (i * 2)).take 2 = [.sc (.int .i64 (ent es i).1), .sc (.int .i64 (ent es i).2)] := EL_two es i h
@[simp] theorem EL_ent1 (es : List (Int × Int)) (i : Nat) (h : i < es.length) : ((EL es).drop (i * 2)).take 1 = [.sc (.int .i64 (ent es i).1)] := EL_fst es i h
@[simp] theorem EL_ent2 (es : List (Int × Int)) (i : Nat) (h : i < es.length) : ((EL es).drop (i * 2 + 1)).take 1 = [.sc (.int .i64 (ent es i).2)] := EL_snd es i h
@[simp] theorem IL_nth0 (l : List Int) (h : 0 < l.length) : (IL (l.take 1)).map SC.c = [.c (.sc (.int .i64 (nth l 0)))] := by
  have := IL_nth l 0 h
  rwa [List.drop_zero] at this
@[simp] theorem EL_ent0 (es : List (Int × Int)) (h : 0 < es.length) : (EL es).take 2 = [.sc (.int .i64 (ent es 0).1), .sc (.int .i64 (ent es 0).2)] := EL_two es 0 h
@[simp] theorem EL_ent01 (es : List (Int × Int)) (h : 0 < es.length) : (EL es).take 1 = [.sc (.int .i64 (ent es 0).1)] := EL_fst es 0 h
@[simp] theorem EL_ent02 (es : List (Int × Int)) (h : 0 < es.length) : ((EL es).drop 1).take 1 = [.sc (.int .i64 (ent es 0).2)] := EL_snd es 0 h
structure Hid (q : Prop) : Prop where
  out : q
/-- As far as it goes: regions, conditions, blocks, until a condition is not decided or a loop comes. -/
theorem go {q p : Prop} (h : q) (hp : Hid q → p := by intro hh; (repeat (first | (show RP _ (.seq (.region _ _ false) _) _ _; refine gs ?_) | (show RP _ (.seq (.region _ _ true) _) _ _; first | refine gD ?_ | refine gW ?_ | refine gm ?_) | (show RP _ (.cond _ _ _) _ _; first | refine gT ?_ | refine gF ?_) | apply gskip | apply rp_ret | apply rp_exit | apply rp_skip | apply rp_block | (show RP _ (.region _ _ false) _ _; refine ge ?_) | (show RP _ (.region _ _ true) _ _; first | refine gG ?_ | refine gV ?_ | refine gn ?_) | apply rp_seq)); exact hh.out) : p := hp ⟨h⟩
end Go.Proofs.Ytnmocjhpbobahaa.L
namespace Go.Proofs.Ytnmocjhpbobahaa.L
open Go Go.RowKit
set_option maxRecDepth 100000

mutual
theorem erase_unit : ∀ c : Cell Unit, c.erase = c
  | .sc v => by simp only [Cell.erase]
  | .sl o sz a row => by simp only [Cell.erase, eraseL_unit row]
  | .bx o a row => by simp only [Cell.erase, eraseL_unit row]
  | .dead => by simp only [Cell.erase]
theorem eraseL_unit : ∀ l : List (Cell Unit), eraseL l = l
  | [] => rfl
  | c :: l => by simp only [eraseL, erase_unit c, eraseL_unit l]
end
attribute [simp] erase_unit eraseL_unit
@[simp] theorem freezeL_IL : ∀ l : List Int, freezeL (IL l) = IL l
  | [] => rfl
  | n :: l => by have := freezeL_IL l; simp only [IL, List.map_cons, freezeL, Cell.freeze] at this ⊢; rw [this]
@[simp] theorem freezeL_EL : ∀ l : List (Int × Int), freezeL (EL l) = EL l
  | [] => rfl
  | n :: l => by have := freezeL_EL l; simp only [EL, freezeL, Cell.freeze] at this ⊢; rw [this]
@[simp] theorem allOwn_IL : ∀ l : List Int, allOwnL (IL l) = true
  | [] => rfl
  | n :: l => by have := allOwn_IL l; simp only [IL, List.map_cons, allOwnL, Cell.allOwn] at this ⊢; rw [this]; rfl
@[simp] theorem allOwn_EL : ∀ l : List (Int × Int), allOwnL (EL l) = true
  | [] => rfl
  | n :: l => by have := allOwn_EL l; simp only [EL, allOwnL, Cell.allOwn] at this ⊢; rw [this]; rfl
@[simp] theorem EL_mem_alive (l : List (Int × Int)) : (∀ x : Cell Unit, x ∈ EL l → x.isDead = false) = True := eq_true (fun x hx => by obtain ⟨n, rfl⟩ := EL_mem l x hx; rfl)
@[simp] theorem seen_EL (r : Nat) (p : List Nat) : ∀ (l : List (Int × Int)) (off : Nat), seen r p off (EL l) = some ((EL l).map SC.c)
  | [], _ => rfl
  | n :: l, off => by
    have := seen_EL r p l (off + 1 + 1)
    simp only [EL, List.map_cons, seen] at this ⊢
    rw [this]
    rfl
theorem EL_app (l m : List (Int × Int)) : EL l ++ EL m = EL (l ++ m) := by
  induction l with
  | nil => rfl
  | cons e l ih => simp only [EL, List.cons_append, ih]
@[simp] theorem EL_app1 (l : List (Int × Int)) (a b : Int) : EL l ++ [.sc (.int .i64 a), .sc (.int .i64 b)] = EL (l ++ [(a, b)]) := by rw [← EL_app]; rfl

/-- A boxed graph of one's own. -/
abbrev gbx (n : Int) (es : List (Int × Int)) : SV Unit := ⟨.one, [.c (.bx true () [.sc (.int .i64 n), .sl false 2 () (EL es)])]⟩

/-! ### rows of rows -/
/-- Rows as frozen cells. -/
def RL (l : List (List Int)) : List (Cell Unit) := l.map fun r => .sl false 1 () (IL r)
@[simp] theorem RL_length (l : List (List Int)) : (RL l).length = l.length := by simp [RL]
@[simp] theorem RL_copy (l : List (List Int)) : (RL l).all Cell.copyable = true := by induction l <;> simp_all [RL, Cell.copyable]
@[simp] theorem RL_mem_copy (l : List (List Int)) : (∀ x : Cell Unit, x ∈ RL l → x.copyable = true) = True := eq_true (fun x hx => List.all_eq_true.1 (RL_copy l) x hx)
def nthR (l : List (List Int)) (i : Nat) : List Int := l.getD i []
theorem nthR_eq {l : List (List Int)} {i : Nat} (h : i < l.length) : nthR l i = l[i] := by simp [nthR, h]
@[simp] theorem RL_nth (l : List (List Int)) (k : Nat) (h : k < l.length) : ((RL l).drop k).take 1 = [.sl false 1 () (IL (nthR l k))] := by
  rw [RL, ← List.map_drop, ← List.map_take]
  have : List.take 1 (List.drop k l) = [l[k]] := by rw [List.drop_eq_getElem_cons h]; rfl
  rw [this]
  simp [nthR, h]
abbrev rows (l : List (List Int)) : SV Unit := ⟨.one, [.c (.sl false 1 () (RL l))]⟩
@[simp] theorem freezeL_RL : ∀ l : List (List Int), freezeL (RL l) = RL l
  | [] => rfl
  | n :: l => by have := freezeL_RL l; simp only [RL, List.map_cons, freezeL, Cell.freeze, freezeL_IL] at this ⊢; rw [this]

/-! ### calls -/
def resO (t : Nat) : Option (SV Unit) → Option (Eff Unit)
  | some r => if r.ownAll then some (effP t r) else none
  | none => none
@[simp] theorem resO_some (t : Nat) (r : SV Unit) : resO t (some r) = if r.ownAll then some (effP t r) else none := rfl
def callO (E : Env) (f t : Nat) : Option (List (SV Unit)) → Option (Eff Unit)
  | some l => resO t (E f l)
  | none => none
@[simp] theorem callO_some (E : Env) (f t : Nat) (l : List (SV Unit)) : callO E f t (some l) = resO t (E f l) := rfl
theorem eff_call {E : Env} {σ : St Unit} {t : Nat} {f : FuncId} {fn : Func} {ts : Array TypeId} {args : List Operand} (hf : Try.prog.funcs[f]? = some fn) (hp : fn.params = ts) : effCall Try.prog E ΩU σ t f args = callO E f t (argsOf Try.prog ΩU σ ts.toList args) := by
  simp only [effCall, hf, hp]
  cases argsOf Try.prog ΩU σ ts.toList args with
  | none => rfl
  | some l => simp only [callO]; cases E f l <;> rfl
attribute [simp] argsOf argOf argSCs argSC argSC0 Cell.freeze SV.ownAll SC.ownAll Cell.allOwn ext env0

/-! ### what cells tell -/
def toEdges : List (Cell Unit) → Option (List (Int × Int))
  | [] => some []
  | c :: d :: l => match c, d, toEdges l with
    | .sc (.int .i64 a), .sc (.int .i64 b), some m => some ((a, b) :: m)
    | _, _, _ => none
  | _ => none
@[simp] theorem toEdges_EL (l : List (Int × Int)) : toEdges (EL l) = some l := by
  induction l with
  | nil => rfl
  | cons x l ih => simp only [EL, toEdges, ih]
theorem toEdges_eq : ∀ {row : List (Cell Unit)} {l : List (Int × Int)}, toEdges row = some l → row = EL l
  | [], l, h => by simp only [toEdges, Option.some.injEq] at h; subst h; rfl
  | [_], l, h => by simp [toEdges] at h
  | c :: d :: row, l, h => by
    simp only [toEdges] at h
    split at h
    · next a b m hm => simp only [Option.some.injEq] at h; subst h; rw [toEdges_eq hm]; rfl
    · cases h
def asGr : SV Unit → Option (Int × List (Int × Int))
  | ⟨.agg, [.c (.sc (.int .i64 n)), .c (.sl false 2 () row)]⟩ => (toEdges row).map fun l => (n, l)
  | _ => none
@[simp] theorem asGr_gr (n : Int) (es : List (Int × Int)) : asGr (gr n es) = some (n, es) := by simp [asGr]
theorem asGr_eq {v : SV Unit} {g : Int × List (Int × Int)} (h : asGr v = some g) : v = gr g.1 g.2 := by
  unfold asGr at h
  split at h
  · next n row =>
    cases hr : toEdges row with
    | none => rw [hr] at h; cases h
    | some l => rw [hr] at h; simp only [Option.map_some, Option.some.injEq] at h; subst h; rw [toEdges_eq hr]
  · cases h
def toRows : List (Cell Unit) → Option (List (List Int))
  | [] => some []
  | c :: l => match c, toRows l with
    | .sl false 1 () row, some m => (toInts row).map fun r => r :: m
    | _, _ => none
@[simp] theorem toRows_RL (l : List (List Int)) : toRows (RL l) = some l := by
  induction l with
  | nil => rfl
  | cons x l ih => simp only [RL, List.map_cons, toRows] at ih ⊢; rw [ih]; simp
theorem toRows_eq : ∀ {row : List (Cell Unit)} {l : List (List Int)}, toRows row = some l → row = RL l
  | [], l, h => by simp only [toRows, Option.some.injEq] at h; subst h; rfl
  | c :: row, l, h => by
    simp only [toRows] at h
    split at h
    · next r m hm =>
      cases hr : toInts r with
      | none => rw [hr] at h; cases h
      | some q => rw [hr] at h; simp only [Option.map_some, Option.some.injEq] at h; subst h; rw [toInts_eq hr, toRows_eq hm]; rfl
    · cases h
def asRows : SV Unit → Option (List (List Int))
  | ⟨.one, [.c (.sl false 1 () row)]⟩ => toRows row
  | _ => none
@[simp] theorem asRows_rows (l : List (List Int)) : asRows (rows l) = some l := toRows_RL l
theorem asRows_eq {v : SV Unit} {l : List (List Int)} (h : asRows v = some l) : v = rows l := by
  unfold asRows at h
  split at h
  · rw [toRows_eq h]
  · cases h
def spec3 {α β γ : Type} (a : SV Unit → Option α) (b : SV Unit → Option β) (c : SV Unit → Option γ) (g : α → β → γ → Option (SV Unit)) : Spec
  | [x, y, z] => match a x, b y, c z with
    | some l, some m, some n => g l m n
    | _, _, _ => none
  | _ => none
theorem spec3_eq {α β γ : Type} {a : SV Unit → Option α} {b : SV Unit → Option β} {c : SV Unit → Option γ} {g : α → β → γ → Option (SV Unit)} {us : List (SV Unit)} {r : SV Unit} (h : spec3 a b c g us = some r) : ∃ x y z l m n, us = [x, y, z] ∧ a x = some l ∧ b y = some m ∧ c z = some n ∧ g l m n = some r := by
  unfold spec3 at h
  split at h
  · next x y z =>
    split at h
    · next l m n hl hm hn => exact ⟨x, y, z, l, m, n, rfl, hl, hm, hn, h⟩
    · cases h
  · cases h
@[simp] theorem spec1_v {α : Type} (a : SV Unit → Option α) (g : α → Option (SV Unit)) (x : SV Unit) (l : α) (h : a x = some l) : spec1 a g [x] = g l := by simp [spec1, h]
theorem spec2_v {α β : Type} {a : SV Unit → Option α} {b : SV Unit → Option β} {g : α → β → Option (SV Unit)} {x y : SV Unit} {l : α} {m : β} (h : a x = some l) (h2 : b y = some m) : spec2 a b g [x, y] = g l m := by simp [spec2, h, h2]
theorem spec3_v {α β γ : Type} {a : SV Unit → Option α} {b : SV Unit → Option β} {c : SV Unit → Option γ} {g : α → β → γ → Option (SV Unit)} {x y z : SV Unit} {l : α} {m : β} {n : γ} (h : a x = some l) (h2 : b y = some m) (h3 : c z = some n) : spec3 a b c g [x, y, z] = g l m n := by simp [spec3, h, h2, h3]
end Go.Proofs.Ytnmocjhpbobahaa.L
namespace Go.Proofs.Ytnmocjhpbobahaa.L
open Go Go.RowKit
set_option maxRecDepth 100000
@[simp] theorem get_none (s : Nat) : St.get ([] : St Unit) s = SV.dead := rfl
attribute [simp] freezeL allOwnL
theorem ent_take {es : List (Int × Int)} {i : Nat} (h : i < es.length) : es.take (i + 1) = es.take i ++ [ent es i] := by
  rw [List.take_add_one, ent_eq h]; simp [h]
theorem nth_take {l : List Int} {i : Nat} (h : i < l.length) : l.take (i + 1) = l.take i ++ [nth l i] := by
  rw [List.take_add_one, nth_eq h]; simp [h]
theorem nthR_take {l : List (List Int)} {i : Nat} (h : i < l.length) : l.take (i + 1) = l.take i ++ [nthR l i] := by
  rw [List.take_add_one, nthR_eq h]; simp [h]
@[simp] theorem toNat_pred (n : Nat) : ((n : Int) - 1).toNat = n - 1 := by omega
@[simp] theorem putD_fin (C : Cert) (i d : Nat) (ops : Array Oper) (o : Oper) (τ : St Unit) (v : SV Unit) : putD C i d ops o τ ⟨[(d, v)], [(d, [])], []⟩ = chkO ((rdO τ ops o).all (okRead C i) && (rootsL v.cs).all (okRead C i)) (some (τ.put d v)) := putD_P C i d ops o τ v
/-! ### drawn regions whose last operation writes -/
def seqW (P : Program) (E : Env) (N : Nat) (ops : Array Oper) (C : Cert) : Nat → List Oper → St Unit → Option (St Unit)
  | _, [], _ => none
  | i, [o], τ => writeO P E N ops C i o τ
  | i, o :: l, τ => match o.dst with
    | some d => thenO (stepEff P E N ops τ o) fun e => thenO (putD C i d ops o τ e) (seqW P E N ops C (i + 1) l)
    | none => none
@[simp] theorem seqW_one (P : Program) (E : Env) (N : Nat) (ops : Array Oper) (C : Cert) (i : Nat) (o : Oper) (τ : St Unit) : seqW P E N ops C i [o] τ = writeO P E N ops C i o τ := rfl
@[simp] theorem seqW_cons (P : Program) (E : Env) (N : Nat) (ops : Array Oper) (C : Cert) (i d : Nat) (op : Op) (ty : TypeId) (pos : String) (af : Array Edge) (g : Option (Nat × Bool)) (o' : Oper) (l : List Oper) (x : Nat × SV Unit) (τ : St Unit) :
    seqW P E N ops C i (⟨some d, op, ty, pos, af, g⟩ :: o' :: l) (x :: τ) = thenO (stepEff P E N ops (x :: τ) ⟨some d, op, ty, pos, af, g⟩) fun e => thenO (putD C i d ops ⟨some d, op, ty, pos, af, g⟩ (x :: τ) e) (seqW P E N ops C (i + 1) (o' :: l)) := rfl
theorem seqW_ok {P : Program} {E : Env} {N : Nat} {ops : Array Oper} {C : Cert} : ∀ (l : List Oper) (i : Nat) (τ τ' : St Unit), (∀ k, k < l.length → ops[i + k]? = l[k]?) → seqW P E N ops C i l τ = some τ' →
    ∃ S o, l ≠ [] ∧ doFresh P E N ops C ((List.range (l.length - 1)).map (i + ·)) τ = some S ∧ ops[i + (l.length - 1)]? = some o ∧ writeO P E N ops C (i + (l.length - 1)) o S = some τ'
  | [], i, τ, τ', _, h => by simp [seqW] at h
  | [o], i, τ, τ', hl, h => by
    have h0 := hl 0 (by simp)
    exact ⟨τ, o, by simp, by simp [doFresh], by simpa using h0, by simpa using h⟩
  | o :: o' :: l, i, τ, τ', hl, h => by
    have h0 := hl 0 (by simp)
    simp only [Nat.add_zero, List.getElem?_cons_zero] at h0
    simp only [seqW] at h
    cases hd : o.dst with
    | none => rw [hd] at h; cases h
    | some d =>
      rw [hd] at h
      simp only at h
      cases he : stepEff P E N ops τ o with
      | none => rw [he] at h; cases h
      | some e =>
        rw [he] at h
        simp only [thenO_some, putD] at h
        cases hp : isPut e d with
        | none => rw [hp] at h; cases h
        | some v =>
          rw [hp] at h
          simp only [chkO] at h
          split at h
          · next hc =>
            obtain ⟨S, o2, _, h1, h2, h3⟩ := seqW_ok (o' :: l) (i + 1) _ τ' (fun k hk => by have := hl (k + 1) (by simpa using hk); rw [show i + 1 + k = i + (k + 1) by omega]; simpa using this) h
            refine ⟨S, o2, by simp, ?_, ?_, ?_⟩
            · rw [show (o :: o' :: l).length - 1 = (o' :: l).length - 1 + 1 by simp, List.range_succ_eq_map, List.map_cons, List.map_map, Nat.add_zero]
              simp only [doFresh, h0, hd, he, hp]
              rw [if_pos hc, ← h1]
              congr 1
              apply List.map_congr_left
              intro k _
              simp only [Function.comp]; omega
            · rw [← h2]; congr 1; simp; omega
            · rw [show i + ((o :: o' :: l).length - 1) = i + 1 + ((o' :: l).length - 1) by simp; omega]; exact h3
          · cases h
def shapeW (ops : Array Oper) (rc : RC) : Bool := rc.plan == [(List.range (ops.size - 1), []), ([], [])] && rc.cert.ws == [ops.size - 1]
theorem drawW {P : Program} {E : Env} {N : Nat} {ops : Array Oper} {rc : RC} {σ σ1 : St Unit} (hs : shapeW ops rc = true) (h0 : rootsOk rc.cert 0 σ = true) (h : seqW P E N ops rc.cert 0 ops.toList σ = some σ1) (h1 : rootsOk rc.cert 1 σ1 = true) :
    drawRun P E N ops rc.cert 0 rc.plan σ = some σ1 := by
  simp only [shapeW, Bool.and_eq_true, beq_iff_eq] at hs
  obtain ⟨hp, hw⟩ := hs
  obtain ⟨S, o, _, a1, a2, a3⟩ := seqW_ok ops.toList 0 σ σ1 (fun k hk => by simp) h
  rw [Array.length_toList] at a1 a2 a3
  rw [Nat.zero_add] at a2 a3
  have a1' : doFresh P E N ops rc.cert (List.range (ops.size - 1)) σ = some S := by
    rw [← a1]; congr 1; simp
  rw [hp, draw_more P E N ops rc.cert 0 _ _ _ σ (ops.size - 1) o (by rw [hw]; rfl) a2]
  unfold phaseRun
  rw [h0]
  simp only [doAgain, Bool.and_self, if_true, a1', thenO_some, a3, draw_one, phaseRun, h1, doFresh]
section
variable {P : Program} {E : Env} {N id : Nat} {t : List (Nat × RC)} {ops : Array Oper} {a b : Code} {rc : RC} {σ σ1 σ2 : St Unit} {Q : Ex → St Unit → Prop}
theorem gW (h : RP (regOf P E N t) b σ2 Q) (hl : t.lookup id = some rc := by rfl) (hn : shapeW ops rc = true := by rfl) (h0 : rootsOk rc.cert 0 σ = true := by kernel_rfl) (hs : seqW P E N ops rc.cert 0 ops.toList σ = some σ1 := by simp (disch := first | (apply chkI; kernel_rfl) | omega | simp) [-RC.d]; rfl) (h1 : rootsOk rc.cert 1 σ1 = true := by kernel_rfl) (hp : St.pick rc.keep σ1 = σ2 := by simp; rfl) :
    RP (regOf P E N t) (.seq (.region id ops true) b) σ Q := by subst hp; exact sd hl (drawW hn h0 hs h1) h
theorem gV (h : Q .normal σ2) (hl : t.lookup id = some rc := by rfl) (hn : shapeW ops rc = true := by rfl) (h0 : rootsOk rc.cert 0 σ = true := by kernel_rfl) (hs : seqW P E N ops rc.cert 0 ops.toList σ = some σ1 := by simp (disch := first | (apply chkI; kernel_rfl) | omega | simp) [-RC.d]; rfl) (h1 : rootsOk rc.cert 1 σ1 = true := by kernel_rfl) (hp : St.pick rc.keep σ1 = σ2 := by simp; rfl) :
    RP (regOf P E N t) (.region id ops true) σ Q := by subst hp; exact rp_reg_draw hl (drawW hn h0 hs h1) h
end
end Go.Proofs.Ytnmocjhpbobahaa.L
namespace Go.Proofs.Ytnmocjhpbobahaa.L
open Go Go.RowKit
set_option maxRecDepth 100000
@[simp] theorem flat_rep (n : Nat) : (List.replicate n [(.sc (.int .i64 0) : Cell Unit)]).flatten = IL (List.replicate n 0) := by
  induction n with
  | zero => rfl
  | succ n ih => simp only [List.replicate_succ, List.flatten_cons, ih]; rfl
@[simp] theorem rep_IL (n : Nat) (v : Int) : List.replicate n (.sc (.int .i64 v) : Cell Unit) = IL (List.replicate n v) := by simp [IL]
attribute [simp] effMake
theorem nth_set {l : List Int} {i j : Nat} {x : Int} (hi : i < l.length) : nth (l.set i x) j = if i = j then x else nth l j := by
  unfold nth
  rw [List.getD_eq_getElem?_getD, List.getD_eq_getElem?_getD, List.getElem?_set]
  split
  · next h => subst h; simp [hi]
  · rfl
attribute [simp] svSame scsSame scSame
@[congr] theorem thenO_congr {α β : Type} {x y : Option α} {f : α → Option β} (h : x = y) : thenO x f = thenO y f := by rw [h]
/-! ### drawn regions with writers -/
def someO {α β : Type} (x : Option α) (f : α → Option β) : Option β := match x with
  | some a => f a
  | none => none
@[congr] theorem someO_congr {α β : Type} {x y : Option α} {f : α → Option β} (h : x = y) : someO x f = someO y f := by rw [h]
@[simp] theorem someO_some {α β : Type} (a : α) (f : α → Option β) : someO (some a) f = f a := (rfl)
theorem draw_more2 (P : Program) (E : Env) (N : Nat) (ops : Array Oper) (C : Cert) (j : Nat) (pl pl' : List Nat × List Nat) (rest : List (List Nat × List Nat)) (τ : St Unit) :
    drawRun P E N ops C j (pl :: pl' :: rest) τ = thenO (phaseRun P E N ops C j pl τ) fun S => someO C.ws[j]? fun i => someO ops[i]? fun o => thenO (writeO P E N ops C i o S) fun S => drawRun P E N ops C (j + 1) (pl' :: rest) S := by
  rw [drawRun]
  cases phaseRun P E N ops C j pl τ with
  | none => rfl
  | some S =>
    simp only [thenO_some]
    cases C.ws[j]? with
    | none => rfl
    | some i =>
      simp only [someO_some]
      cases ops[i]? with
      | none => rfl
      | some o =>
        simp only [someO_some, writeO]
        cases stepEff P E N ops S o with
        | none => simp only; split <;> rfl
        | some e => simp only; split <;> rfl
theorem phase2 (P : Program) (E : Env) (N : Nat) (ops : Array Oper) (C : Cert) (j : Nat) (pl : List Nat × List Nat) (x : Nat × SV Unit) (τ : St Unit) :
    phaseRun P E N ops C j pl (x :: τ) = chkO (rootsOk C j (x :: τ)) (if doAgain P E N ops C (x :: τ) pl.2 = true then doFresh P E N ops C pl.1 (x :: τ) else none) := by
  unfold phaseRun chkO
  cases rootsOk C j (x :: τ) <;> cases doAgain P E N ops C (x :: τ) pl.2 <;> rfl
theorem freshO_put2 (P : Program) (E : Env) (N : Nat) (ops : Array Oper) (C : Cert) (i d : Nat) (o : Oper) (x : Nat × SV Unit) (τ : St Unit) (v : SV Unit) :
    freshO P E N ops C i d o (x :: τ) (effP d v) = chkO ((rdO (x :: τ) ops o).all (okRead C i) && (rootsL v.cs).all (okRead C i)) (some (St.put (x :: τ) d v)) := by
  simp only [freshO, isPut_P, chkO]
theorem freshO_fin2 (P : Program) (E : Env) (N : Nat) (ops : Array Oper) (C : Cert) (i d : Nat) (o : Oper) (x : Nat × SV Unit) (τ : St Unit) (v : SV Unit) :
    freshO P E N ops C i d o (x :: τ) ⟨[(d, v)], [(d, [])], []⟩ = chkO ((rdO (x :: τ) ops o).all (okRead C i) && (rootsL v.cs).all (okRead C i)) (some (St.put (x :: τ) d v)) := freshO_put2 P E N ops C i d o x τ v
theorem writeO2 (P : Program) (E : Env) (N : Nat) (ops : Array Oper) (C : Cert) (i : Nat) (o : Oper) (x : Nat × SV Unit) (S : St Unit) : writeO P E N ops C i o (x :: S) = chkO ((rdO (x :: S) ops o).all (okRead C i)) (thenO (stepEff P E N ops (x :: S) o) (appE (x :: S))) := rfl
section
variable {P : Program} {E : Env} {N id : Nat} {t : List (Nat × RC)} {ops : Array Oper} {a b : Code} {rc : RC} {σ σ1 σ2 : St Unit} {Q : Ex → St Unit → Prop}
theorem gm (h : RP (regOf P E N t) b σ2 Q) (hl : t.lookup id = some rc := by rfl) (hs : drawRun P E N ops rc.cert 0 rc.plan σ = some σ1 := by simp (maxSteps := 4000000) (disch := first | (apply chkI; kernel_rfl) | omega | simp) [-phaseRun, -rootsOk, -draw_more, draw_more2, phase2, -freshO_put, freshO_put2, freshO_fin2, -writeO, writeO2]; rfl) (hp : St.pick rc.keep σ1 = σ2 := by simp; rfl) :
    RP (regOf P E N t) (.seq (.region id ops true) b) σ Q := by subst hp; exact sd hl hs h
theorem gn (h : Q .normal σ2) (hl : t.lookup id = some rc := by rfl) (hs : drawRun P E N ops rc.cert 0 rc.plan σ = some σ1 := by simp (maxSteps := 4000000) (disch := first | (apply chkI; kernel_rfl) | omega | simp) [-phaseRun, -rootsOk, -draw_more, draw_more2, phase2, -freshO_put, freshO_put2, freshO_fin2, -writeO, writeO2]; rfl) (hp : St.pick rc.keep σ1 = σ2 := by simp; rfl) :
    RP (regOf P E N t) (.region id ops true) σ Q := by subst hp; exact rp_reg_draw hl hs h
end
end Go.Proofs.Ytnmocjhpbobahaa.L
namespace Go.Proofs.Ytnmocjhpbobahaa.L
open Go Go.RowKit
set_option maxRecDepth 100000
@[simp] theorem min_lit (a k : Nat) : min (a : Int) (no_index (@OfNat.ofNat Int k (@instOfNat k))) = ((min a (@OfNat.ofNat Nat k (instOfNatNat k)) : Nat) : Int) := by
  show min (a : Int) (k : Int) = ((min a k : Nat) : Int)
  omega
@[simp] theorem EL_take2 (es : List (Int × Int)) (k : Nat) : (EL es).take (k * 2) = EL (es.take k) := by
  induction es generalizing k with
  | nil => simp [EL]
  | cons e l ih =>
    cases k with
    | zero => simp [EL]
    | succ k => rw [show (k + 1) * 2 = k * 2 + 1 + 1 by omega]; simp only [EL, List.take_succ_cons, ih]
@[simp] theorem EL_nil : EL [] = [] := rfl
@[simp] theorem zok46 : zeroOk Try.prog 57 = true := by kernel_rfl
@[simp] theorem bytes46 : Try.prog.bytesOf 57 = 16 := by kernel_rfl
@[simp] theorem zok25 : zeroOk Try.prog 39 = true := by kernel_rfl
@[simp] theorem bytes25 : Try.prog.bytesOf 39 = 24 := by kernel_rfl
@[simp] theorem zero25 : zeroCellsOf Try.prog () 39 = some [.sl true 1 () []] := by kernel_rfl
@[simp] theorem iteF {α : Type} {p : Prop} [Decidable p] {a : Option α} (h : ¬ p) : (if p then none else a) = a := if_neg h
@[simp] theorem IL_tail (l : List Int) : (IL l).tail = IL l.tail := by cases l <;> rfl
@[simp] theorem IL_nth1 (l : List Int) (h : 1 < l.length) : (IL (l.tail.take 1)).map SC.c = [.c (.sc (.int .i64 (nth l 1)))] := by
  have := IL_nth l 1 h
  rwa [List.drop_one] at this
end Go.Proofs.Ytnmocjhpbobahaa.L
namespace Go.Proofs.Ytnmocjhpbobahaa.L
open Go Go.RowKit
set_option maxRecDepth 100000
def OL (l : List (List Int)) : List (Cell Unit) := l.map fun r => .sl true 1 () (IL r)
@[simp] theorem OL_length (l : List (List Int)) : (OL l).length = l.length := by simp [OL]
@[simp] theorem freezeL_OL : ∀ l : List (List Int), freezeL (OL l) = RL l
  | [] => rfl
  | n :: l => by have := freezeL_OL l; simp only [OL, RL, List.map_cons, freezeL, Cell.freeze, freezeL_IL] at this ⊢; rw [this]
@[simp] theorem allOwn_OL : ∀ l : List (List Int), allOwnL (OL l) = true
  | [] => rfl
  | n :: l => by have := allOwn_OL l; simp only [OL, List.map_cons, allOwnL, Cell.allOwn, allOwn_IL] at this ⊢; rw [this]; rfl
@[simp] theorem OL_get (l : List (List Int)) (k : Nat) (h : k < l.length) : (OL l)[k]? = some (.sl true 1 () (IL (nthR l k))) := by
  simp [OL, nthR, h]
@[simp] theorem OL_nth (l : List (List Int)) (k : Nat) (h : k < l.length) : ((OL l).drop k).take 1 = [.sl true 1 () (IL (nthR l k))] := by
  rw [OL, ← List.map_drop, ← List.map_take]
  have : List.take 1 (List.drop k l) = [l[k]] := by rw [List.drop_eq_getElem_cons h]; rfl
  rw [this]
  simp [nthR, h]
@[simp] theorem OL_set (l : List (List Int)) (k : Nat) (r : List Int) : (OL l).set k (.sl true 1 () (IL r)) = OL (l.set k r) := by simp [OL]
@[simp] theorem OL_app1 (l : List (List Int)) (r : List Int) : OL l ++ [.sl true 1 () (IL r)] = OL (l ++ [r]) := by simp [OL]
@[simp] theorem OL_mem_alive (l : List (List Int)) : (∀ x : Cell Unit, x ∈ OL l → x.isDead = false) = True := eq_true (fun x hx => by
  simp only [OL, List.mem_map] at hx; obtain ⟨r, _, rfl⟩ := hx; rfl)
@[simp] theorem OL_rep (n : Nat) : (List.replicate n (.sl true 1 () [] : Cell Unit)) = OL (List.replicate n []) := by simp [OL, IL]
@[simp] theorem OL_flat (n : Nat) : (List.replicate n [(.sl true 1 () [] : Cell Unit)]).flatten = OL (List.replicate n []) := by
  induction n with
  | zero => rfl
  | succ n ih => simp only [List.replicate_succ, List.flatten_cons, ih]; rfl
abbrev orows (l : List (List Int)) : SV Unit := ⟨.one, [.c (.sl true 1 () (OL l))]⟩
@[simp] theorem bytes36 : Try.prog.bytesOf 39 = 24 := by kernel_rfl
@[simp] theorem zero24 : zeroCellsOf Try.prog () 26 = some [.sc (.int .i64 0), .sl true 2 () []] := by kernel_rfl
@[simp] theorem infos46 : infosOk Try.prog 57 = true := by kernel_rfl
@[simp] theorem infos24 : infosOk Try.prog 26 = true := by kernel_rfl
attribute [simp] effBuild seeParts
end Go.Proofs.Ytnmocjhpbobahaa.L
namespace Go.Proofs.Ytnmocjhpbobahaa.L
open Go Go.RowKit
def ifSome {α β : Type} : Option α → Option β → Option β
  | some _, z => z
  | none, _ => none
@[simp] theorem ifSome_none {α β : Type} (z : Option β) : ifSome (none : Option α) z = none := rfl
@[simp] theorem eff_nileq (P : Program) (x : Nat × SV Unit) (σ : St Unit) (t s : Nat) (d : Option Nat) (op : BinOp) (ty yt rt : TypeId) (pos : String) (af : Array Edge) (g : Option (Nat × Bool)) :
    effPure P (x :: σ) t ⟨d, .binOp op ty (.tmp s) (.const (.slice none 0 0)) yt, rt, pos, af, g⟩ = ifSome (valOf (x :: σ) (.tmp s)) (effZ P (x :: σ) t ⟨d, .binOp op ty (.tmp s) (.const (.slice none 0 0)) yt, rt, pos, af, g⟩) := by
  cases h : valOf (x :: σ) (.tmp s) with
  | some v => rfl
  | none =>
    unfold effPure
    rw [if_neg]
    · rfl
    · intro hc
      simp only [Bool.and_eq_true, List.all_eq_true] at hc
      have := hc.2 (.tmp s) (List.mem_cons_self)
      rw [h] at this
      cases this
attribute [simp] effNilCmp
@[simp] theorem eff_fieldp (P : Program) (x : Nat × SV Unit) (σ : St Unit) (t s f : Nat) (d : Option Nat) (ty rt : TypeId) (pos : String) (af : Array Edge) (g : Option (Nat × Bool)) :
    effPure P (x :: σ) t ⟨d, .field ty (.tmp s) f, rt, pos, af, g⟩ = ifSome (valOf (x :: σ) (.tmp s)) (effZ P (x :: σ) t ⟨d, .field ty (.tmp s) f, rt, pos, af, g⟩) := by
  cases h : valOf (x :: σ) (.tmp s) with
  | some v => rfl
  | none =>
    unfold effPure
    rw [if_neg]
    · rfl
    · intro hc
      simp only [Bool.and_eq_true, List.all_eq_true] at hc
      have := hc.2 (.tmp s) (List.mem_cons_self)
      rw [h] at this
      cases this
attribute [simp] effField
/-! ### a call whose first argument is a nil that is written -/
def callNilO (E : Env) (f t : Nat) : Option (List (SV Unit)) → Option (Eff Unit)
  | some l => resO t (E f (nilMark :: l))
  | none => none
@[simp] theorem callNilO_some (E : Env) (f t : Nat) (l : List (SV Unit)) : callNilO E f t (some l) = resO t (E f (nilMark :: l)) := rfl
theorem eff_callNil {E : Env} {σ : St Unit} {t : Nat} {f : FuncId} {fn : Func} {ts : Array TypeId} {args : List Operand} (hf : Try.prog.funcs[f]? = some fn) (hp : fn.params = ts) : effCallNil Try.prog E ΩU σ t f (.const (.slice none 0 0) :: args) = callNilO E f t (argsOf Try.prog ΩU σ ts.toList.tail args) := by
  simp only [effCallNil, hf, hp]
  cases argsOf Try.prog ΩU σ ts.toList.tail args with
  | none => rfl
  | some l => simp only [callNilO]; cases E f (nilMark :: l) <;> rfl
@[simp] theorem effLend_const (P : Program) (E : Env) (Ω : Orc Unit) (σ : St Unit) (t f : Nat) (v : Value) (args : List Operand) : effLend P E Ω σ t f (.const v :: args) = none := by
  unfold effLend
  split <;> first | rfl | simp_all
@[simp] theorem resO_none (t : Nat) : resO t none = none := rfl
end Go.Proofs.Ytnmocjhpbobahaa.L
namespace Go.Proofs.Ytnmocjhpbobahaa.L
open Go Go.RowKit
def int1 (k : IntKind) (u : Option Value) (f : Int → SV Unit) (t : Nat) (z : Option (Eff Unit)) : Option (Eff Unit) := match u with
  | some (.int k' a) => if k' = k then some (effP t (f a)) else z
  | _ => z
@[simp] theorem int1_i (a : Int) (k : IntKind) (f : Int → SV Unit) (t : Nat) (z : Option (Eff Unit)) : int1 k (some (.int k a)) f t z = some (effP t (f a)) := by simp [int1]
abbrev uv (n : Int) : SV Unit := ⟨.one, [.c (.sc (.int .u64 n))]⟩
section
variable {σ : St Unit} {t : Nat} {x : Operand} {d : Option Nat} {ty : TypeId} {pos : String} {af : Array Edge} {g : Option (Nat × Bool)}
theorem sem_toU {ρ : Operand → Value} {a : Int} (hx : ρ x = .int .i64 a) : pv Try.prog (execOp ρ ⟨d, .convert 3 116 x, ty, pos, af, g⟩) = some (.value (.int .u64 (IntKind.u64.wrap a))) := by
  simp only [execOp, hx]; kernel_rfl
theorem sem_ofU {ρ : Operand → Value} {a : Int} (hx : ρ x = .int .u64 a) : pv Try.prog (execOp ρ ⟨d, .convert 116 3 x, ty, pos, af, g⟩) = some (.value (.int .i64 (IntKind.i64.wrap a))) := by
  simp only [execOp, hx]; kernel_rfl
theorem sem_half {ρ : Operand → Value} {a : Int} (hx : ρ x = .int .u64 a) (hy : ρ (.const (.int .u64 1)) = .int .u64 1) : pv Try.prog (execOp ρ ⟨d, .binOp .shr 116 x (.const (.int .u64 1)) 116, ty, pos, af, g⟩) = some (.value (.int .u64 (a.fdiv 2))) := by
  simp only [execOp, hx, hy]; kernel_rfl
@[simp] theorem eff_toU : effPure Try.prog σ t ⟨d, .convert 3 116 x, ty, pos, af, g⟩ = int1 .i64 (valOf σ x) (fun a => uv (IntKind.u64.wrap a)) t (effZ Try.prog σ t ⟨d, .convert 3 116 x, ty, pos, af, g⟩) := by
  unfold int1
  split
  · next k a hx =>
    split
    · next hk =>
      subst hk
      unfold effPure
      rw [if_pos (by simp [pureOp, Op.operands, hx, -valOf]), sem_toU (a := a) (by rw [hx]; rfl)]
      rfl
    · rfl
  · rfl
@[simp] theorem eff_ofU : effPure Try.prog σ t ⟨d, .convert 116 3 x, ty, pos, af, g⟩ = int1 .u64 (valOf σ x) (fun a => iv (IntKind.i64.wrap a)) t (effZ Try.prog σ t ⟨d, .convert 116 3 x, ty, pos, af, g⟩) := by
  unfold int1
  split
  · next k a hx =>
    split
    · next hk =>
      subst hk
      unfold effPure
      rw [if_pos (by simp [pureOp, Op.operands, hx, -valOf]), sem_ofU (a := a) (by rw [hx]; rfl)]
      rfl
    · rfl
  · rfl
@[simp] theorem eff_half : effPure Try.prog σ t ⟨d, .binOp .shr 116 x (.const (.int .u64 1)) 116, ty, pos, af, g⟩ = int1 .u64 (valOf σ x) (fun a => uv (a.fdiv 2)) t (effZ Try.prog σ t ⟨d, .binOp .shr 116 x (.const (.int .u64 1)) 116, ty, pos, af, g⟩) := by
  unfold int1
  split
  · next k a hx =>
    split
    · next hk =>
      subst hk
      unfold effPure
      have hc : valOf σ (.const (.int .u64 1)) = some (.int .u64 1) := rfl
      rw [if_pos (by simp [pureOp, Op.operands, hx, hc, -valOf]), sem_half (a := a) (by rw [hx]; rfl) (by rw [hc]; rfl)]
      rfl
    · rfl
  · rfl
end
@[simp] theorem u64_add (i j : Nat) (h : i + j < 9223372036854775808) : IntKind.u64.wrap ((i : Int) + j) = (i : Int) + j := by simp [IntKind.wrap, IntKind.bits, IntKind.signed]; omega
/-- Half (closed to simp). -/
def halfN (i j : Nat) : Nat := (i + j) / 2
theorem halfN_lt {i j : Nat} (h : i < j) : i ≤ halfN i j ∧ halfN i j < j := by unfold halfN; omega
@[simp] theorem half_add (i j : Nat) : ((i : Int) + j).fdiv 2 = ((halfN i j : Nat) : Int) := by rw [Int.fdiv_eq_ediv_of_nonneg _ (by omega)]; unfold halfN; omega
end Go.Proofs.Ytnmocjhpbobahaa.L
namespace Go.Proofs.Ytnmocjhpbobahaa.L
open Go Go.RowKit
set_option maxRecDepth 100000
/-- One round of a loop; what comes behind it. -/
def roundR (reg : Reg) (a : Code) (Q : Ex → St Unit → Prop) : Ex → St Unit → Prop
  | .normal, σ => RP reg (.loop a) σ Q
  | e, σ => Q e σ
theorem rp_round {reg : Reg} {a : Code} {σ : St Unit} {Q : Ex → St Unit → Prop} (h : RP reg a σ (roundR reg a Q)) : RP reg (.loop a) σ Q := by
  obtain ⟨n, e, σ1, h1, h2⟩ := h
  cases e with
  | normal =>
    obtain ⟨m, e', σ2, h3, h4⟩ := h2
    refine ⟨n + m + 1, e', σ2, ?_, h4⟩
    simp only [run, run_mono n (n + m) a σ _ h1 (by omega)]
    exact run_mono m (n + m) _ σ1 _ h3 (by omega)
  | exit i => exact ⟨n + 1, _, σ1, by simp only [run, h1], h2⟩
  | goto l => exact ⟨n + 1, _, σ1, by simp only [run, h1], h2⟩
  | ret => exact ⟨n + 1, _, σ1, by simp only [run, h1], h2⟩
/-! ### rows of truth values -/
def B (b : Bool) : Cell Unit := .sc (.bool b)
def BL (l : List Bool) : List (Cell Unit) := l.map B
def nthB (l : List Bool) (i : Nat) : Bool := l.getD i false
@[simp] theorem BL_nil : BL [] = [] := rfl
@[simp] theorem BL_length (l : List Bool) : (BL l).length = l.length := by simp [BL]
@[simp] theorem BL_copy (l : List Bool) : (BL l).all Cell.copyable = true := by induction l <;> simp_all [BL, B, Cell.copyable]
@[simp] theorem BL_mem_copy (l : List Bool) : (∀ x : Cell Unit, x ∈ BL l → x.copyable = true) = True := eq_true (fun x hx => List.all_eq_true.1 (BL_copy l) x hx)
@[simp] theorem BL_mem_alive (l : List Bool) : (∀ x : Cell Unit, x ∈ BL l → x.isDead = false) = True := eq_true (fun x hx => by simp only [BL, List.mem_map] at hx; obtain ⟨b, _, rfl⟩ := hx; rfl)
@[simp] theorem BL_nth (l : List Bool) (k : Nat) (h : k < l.length) : ((BL l).drop k).take 1 = [.sc (.bool (nthB l k))] := by
  rw [BL, ← List.map_drop, ← List.map_take]
  have : List.take 1 (List.drop k l) = [l[k]] := by rw [List.drop_eq_getElem_cons h]; rfl
  rw [this]
  simp [B, nthB, h]
@[simp] theorem BL_set (l : List Bool) (k : Nat) (b : Bool) : (BL l).set k (.sc (.bool b)) = BL (l.set k b) := by simp [BL, B]
@[simp] theorem BL_app1 (l : List Bool) (b : Bool) : BL l ++ [.sc (.bool b)] = BL (l ++ [b]) := by simp [BL, B]
@[simp] theorem freezeL_BL : ∀ l : List Bool, freezeL (BL l) = BL l
  | [] => rfl
  | n :: l => by have := freezeL_BL l; simp only [BL, B, List.map_cons, freezeL, Cell.freeze] at this ⊢; rw [this]
@[simp] theorem allOwn_BL : ∀ l : List Bool, allOwnL (BL l) = true
  | [] => rfl
  | n :: l => by have := allOwn_BL l; simp only [BL, B, List.map_cons, allOwnL, Cell.allOwn] at this ⊢; rw [this]; rfl
@[simp] theorem seen_BL (r : Nat) (p : List Nat) : ∀ (l : List Bool) (off : Nat), seen r p off (BL l) = some ((BL l).map SC.c)
  | [], _ => rfl
  | x :: l, off => by
    have := seen_BL r p l (off + 1)
    simp only [BL, B, List.map_cons, seen] at this ⊢
    rw [this]
    rfl
@[simp] theorem BL_flat (n : Nat) : (List.replicate n [(.sc (.bool false) : Cell Unit)]).flatten = BL (List.replicate n false) := by
  induction n with
  | zero => rfl
  | succ n ih => simp only [List.replicate_succ, List.flatten_cons, ih]; rfl
def toBools : List (Cell Unit) → Option (List Bool)
  | [] => some []
  | c :: l => match c, toBools l with
    | .sc (.bool n), some m => some (n :: m)
    | _, _ => none
@[simp] theorem toBools_map (l : List Bool) : toBools (BL l) = some l := by
  induction l with
  | nil => rfl
  | cons x l ih => simp only [BL, B, List.map_cons, toBools] at ih ⊢; rw [ih]
theorem toBools_eq : ∀ {row : List (Cell Unit)} {l : List Bool}, toBools row = some l → row = BL l
  | [], l, h => by simp only [toBools, Option.some.injEq] at h; subst h; rfl
  | c :: row, l, h => by
    simp only [toBools] at h
    split at h
    · next n m _ hm => simp only [Option.some.injEq] at h; subst h; rw [toBools_eq hm]; rfl
    · cases h
/-! ### arrays of three numbers -/
abbrev a3 (a b c : Int) : SV Unit := ⟨.agg, [.c (.sc (.int .i64 a)), .c (.sc (.int .i64 b)), .c (.sc (.int .i64 c))]⟩
abbrev a3x (a b c : Int) : SV Unit := ⟨.one, [.c (.bx true () [.sc (.int .i64 a), .sc (.int .i64 b), .sc (.int .i64 c)])]⟩
def asA3 : SV Unit → Option (Int × Int × Int)
  | ⟨.agg, [.c (.sc (.int .i64 a)), .c (.sc (.int .i64 b)), .c (.sc (.int .i64 c))]⟩ => some (a, b, c)
  | _ => none
@[simp] theorem asA3_a3 (a b c : Int) : asA3 (a3 a b c) = some (a, b, c) := rfl
theorem asA3_eq {v : SV Unit} {x : Int × Int × Int} (h : asA3 v = some x) : v = a3 x.1 x.2.1 x.2.2 := by
  unfold asA3 at h
  split at h
  · simp only [Option.some.injEq] at h; subst h; rfl
  · cases h
end Go.Proofs.Ytnmocjhpbobahaa.L
namespace Go.Proofs.Ytnmocjhpbobahaa.L
open Go Go.RowKit
set_option maxRecDepth 100000
abbrev Cu := Int × Int × Int × Int × Int × Int
def CL : List Cu → List (Cell Unit)
  | [] => []
  | e :: l => .sc (.int .i64 e.1) :: .sc (.int .i64 e.2.1) :: .sc (.int .i64 e.2.2.1) :: .sc (.int .i64 e.2.2.2.1) :: .sc (.int .i64 e.2.2.2.2.1) :: .sc (.int .i64 e.2.2.2.2.2) :: CL l
def cuAt (l : List Cu) (i : Nat) : Cu := l.getD i (0, 0, 0, 0, 0, 0)
theorem cuAt_eq {l : List Cu} {i : Nat} (h : i < l.length) : cuAt l i = l[i] := by simp [cuAt, h]
@[simp] theorem CL_nil : CL [] = [] := rfl
@[simp] theorem CL_length (l : List Cu) : (CL l).length = l.length * 6 := by
  induction l with
  | nil => rfl
  | cons e l ih => simp only [CL, List.length_cons, ih]; omega
theorem CL_mem (l : List Cu) : ∀ x ∈ CL l, ∃ n, x = .sc (.int .i64 n) := by
  induction l with
  | nil => simp [CL]
  | cons e l ih =>
    intro x hx
    simp only [CL, List.mem_cons] at hx
    rcases hx with rfl | rfl | rfl | rfl | rfl | rfl | hx
    · exact ⟨_, rfl⟩
    · exact ⟨_, rfl⟩
    · exact ⟨_, rfl⟩
    · exact ⟨_, rfl⟩
    · exact ⟨_, rfl⟩
    · exact ⟨_, rfl⟩
    · exact ih x hx
@[simp] theorem CL_copy (l : List Cu) : (CL l).all Cell.copyable = true := by
  rw [List.all_eq_true]; intro x hx; obtain ⟨n, rfl⟩ := CL_mem l x hx; rfl
@[simp] theorem CL_mem_copy (l : List Cu) : (∀ x : Cell Unit, x ∈ CL l → x.copyable = true) = True := eq_true (fun x hx => by obtain ⟨n, rfl⟩ := CL_mem l x hx; rfl)
@[simp] theorem CL_mem_alive (l : List Cu) : (∀ x : Cell Unit, x ∈ CL l → x.isDead = false) = True := eq_true (fun x hx => by obtain ⟨n, rfl⟩ := CL_mem l x hx; rfl)
theorem CL_drop (l : List Cu) : ∀ i, (CL l).drop (i * 6) = CL (l.drop i) := by
  induction l with
  | nil => intro i; simp [CL]
  | cons e l ih =>
    intro i
    cases i with
    | zero => simp
    | succ i => rw [show (i + 1) * 6 = i * 6 + 1 + 1 + 1 + 1 + 1 + 1 by omega]; simp only [CL, List.drop_succ_cons]; exact ih i
@[simp] theorem CL_six (l : List Cu) (i : Nat) (h : i < l.length) : ((CL l).drop (i * 6)).take 6 = [.sc (.int .i64 ((cuAt l i).1)), .sc (.int .i64 ((cuAt l i).2.1)), .sc (.int .i64 ((cuAt l i).2.2.1)), .sc (.int .i64 ((cuAt l i).2.2.2.1)), .sc (.int .i64 ((cuAt l i).2.2.2.2.1)), .sc (.int .i64 ((cuAt l i).2.2.2.2.2))] := by
  rw [CL_drop, List.drop_eq_getElem_cons h]
  simp [CL, cuAt, h]
@[simp] theorem CL_take (l : List Cu) (k : Nat) : (CL l).take (k * 6) = CL (l.take k) := by
  induction l generalizing k with
  | nil => simp [CL]
  | cons e l ih =>
    cases k with
    | zero => simp [CL]
    | succ k => rw [show (k + 1) * 6 = k * 6 + 1 + 1 + 1 + 1 + 1 + 1 by omega]; simp only [CL, List.take_succ_cons, ih]
@[simp] theorem freezeL_CL : ∀ l : List Cu, freezeL (CL l) = CL l
  | [] => rfl
  | n :: l => by have := freezeL_CL l; simp only [CL, freezeL, Cell.freeze] at this ⊢; rw [this]
@[simp] theorem allOwn_CL : ∀ l : List Cu, allOwnL (CL l) = true
  | [] => rfl
  | n :: l => by have := allOwn_CL l; simp only [CL, allOwnL, Cell.allOwn] at this ⊢; rw [this]; rfl
theorem CL_app (l m : List Cu) : CL l ++ CL m = CL (l ++ m) := by
  induction l with
  | nil => rfl
  | cons e l ih => simp only [CL, List.cons_append, ih]
@[simp] theorem CL_app1 (l : List Cu) (a b c d e f : Int) : CL l ++ [.sc (.int .i64 a), .sc (.int .i64 b), .sc (.int .i64 c), .sc (.int .i64 d), .sc (.int .i64 e), .sc (.int .i64 f)] = CL (l ++ [(a, b, c, d, e, f)]) := by rw [← CL_app]; rfl
theorem cuAt_take {l : List Cu} {i : Nat} (h : i < l.length) : l.take (i + 1) = l.take i ++ [cuAt l i] := by
  rw [List.take_succ_eq_append_getElem h, cuAt_eq h]
/-! ### the types -/
@[simp] theorem rim_undC : Try.prog.underlying 59 = some (.struct #[⟨"A", 3, 0, false, "", "", 0⟩, ⟨"B", 3, 1, false, "", "", 8⟩, ⟨"C", 3, 2, false, "", "", 16⟩, ⟨"P", 3, 3, false, "", "", 24⟩, ⟨"Q", 3, 4, false, "", "", 32⟩, ⟨"R", 3, 5, false, "", "", 40⟩]) := by kernel_rfl
@[simp] theorem rim_cellsC : Try.prog.cellsOf 59 = 6 := by kernel_rfl
@[simp] theorem rim_bytesC : Try.prog.bytesOf 59 = 48 := by kernel_rfl
@[simp] theorem rim_zokC : zeroOk Try.prog 59 = true := by kernel_rfl
@[simp] theorem rim_zeroC : zeroCellsOf Try.prog () 59 = some [.sc (.int .i64 0), .sc (.int .i64 0), .sc (.int .i64 0), .sc (.int .i64 0), .sc (.int .i64 0), .sc (.int .i64 0)] := by kernel_rfl
@[simp] theorem rim_infosC : infosOk Try.prog 59 = true := by kernel_rfl
@[simp] theorem rim_undS : Try.prog.underlying 33 = some (.slice 59) := by kernel_rfl
@[simp] theorem rim_cellsS : Try.prog.cellsOf 33 = 1 := by kernel_rfl
@[simp] theorem rim_zeroS : zeroCellsOf Try.prog () 33 = some [.sl true 6 () []] := by kernel_rfl
@[simp] theorem rim_undT : Try.prog.underlying 35 = some (.struct #[⟨"End", 3, 0, false, "", "", 0⟩, ⟨"Cuts", 33, 1, false, "", "", 8⟩]) := by kernel_rfl
@[simp] theorem rim_cellsT : Try.prog.cellsOf 35 = 2 := by kernel_rfl
@[simp] theorem rim_zeroT : zeroCellsOf Try.prog () 35 = some [.sc (.int .i64 0), .sl true 6 () []] := by kernel_rfl
@[simp] theorem rim_infosT : infosOk Try.prog 35 = true := by kernel_rfl
@[simp] theorem rim_undZ : Try.prog.underlying 41 = some (.struct #[⟨"Left", 39, 0, false, "", "", 0⟩, ⟨"Edges", 22, 1, false, "", "", 24⟩, ⟨"Marks", 39, 2, false, "", "", 48⟩]) := by kernel_rfl
@[simp] theorem rim_cellsZ : Try.prog.cellsOf 41 = 3 := by kernel_rfl
@[simp] theorem rim_zeroZ : zeroCellsOf Try.prog () 41 = some [.sl true 1 () [], .sl true 2 () [], .sl true 1 () []] := by kernel_rfl
@[simp] theorem rim_infosZ : infosOk Try.prog 41 = true := by kernel_rfl
@[simp] theorem ref20_undC : Try.prog.underlying 62 = some (.struct #[⟨"A", 3, 0, false, "", "", 0⟩, ⟨"B", 3, 1, false, "", "", 8⟩, ⟨"C", 3, 2, false, "", "", 16⟩, ⟨"P", 3, 3, false, "", "", 24⟩, ⟨"Q", 3, 4, false, "", "", 32⟩, ⟨"R", 3, 5, false, "", "", 40⟩]) := by kernel_rfl
@[simp] theorem ref20_cellsC : Try.prog.cellsOf 62 = 6 := by kernel_rfl
@[simp] theorem ref20_bytesC : Try.prog.bytesOf 62 = 48 := by kernel_rfl
@[simp] theorem ref20_zokC : zeroOk Try.prog 62 = true := by kernel_rfl
@[simp] theorem ref20_zeroC : zeroCellsOf Try.prog () 62 = some [.sc (.int .i64 0), .sc (.int .i64 0), .sc (.int .i64 0), .sc (.int .i64 0), .sc (.int .i64 0), .sc (.int .i64 0)] := by kernel_rfl
@[simp] theorem ref20_infosC : infosOk Try.prog 62 = true := by kernel_rfl
@[simp] theorem ref20_undS : Try.prog.underlying 29 = some (.slice 62) := by kernel_rfl
@[simp] theorem ref20_cellsS : Try.prog.cellsOf 29 = 1 := by kernel_rfl
@[simp] theorem ref20_zeroS : zeroCellsOf Try.prog () 29 = some [.sl true 6 () []] := by kernel_rfl
@[simp] theorem ref20_undT : Try.prog.underlying 31 = some (.struct #[⟨"End", 3, 0, false, "", "", 0⟩, ⟨"Cuts", 29, 1, false, "", "", 8⟩]) := by kernel_rfl
@[simp] theorem ref20_cellsT : Try.prog.cellsOf 31 = 2 := by kernel_rfl
@[simp] theorem ref20_zeroT : zeroCellsOf Try.prog () 31 = some [.sc (.int .i64 0), .sl true 6 () []] := by kernel_rfl
@[simp] theorem ref20_infosT : infosOk Try.prog 31 = true := by kernel_rfl
@[simp] theorem ref20_undZ : Try.prog.underlying 45 = some (.struct #[⟨"Left", 39, 0, false, "", "", 0⟩, ⟨"Edges", 22, 1, false, "", "", 24⟩, ⟨"Marks", 39, 2, false, "", "", 48⟩]) := by kernel_rfl
@[simp] theorem ref20_cellsZ : Try.prog.cellsOf 45 = 3 := by kernel_rfl
@[simp] theorem ref20_zeroZ : zeroCellsOf Try.prog () 45 = some [.sl true 1 () [], .sl true 2 () [], .sl true 1 () []] := by kernel_rfl
@[simp] theorem ref20_infosZ : infosOk Try.prog 45 = true := by kernel_rfl
@[simp] theorem kdLen_s (n : Nat) : kdLen (some n) = n := rfl
@[simp] theorem kdLen_n : kdLen none = 1 := rfl
@[simp] theorem kdKd_s (n : Nat) : kdKd (some n) = .agg := rfl
@[simp] theorem kdKd_n : kdKd none = .one := rfl
/-- A trace: frozen, owned; in a box. -/
abbrev tr (n : Int) (l : List Cu) : SV Unit := ⟨.agg, [.c (.sc (.int .i64 n)), .c (.sl false 6 () (CL l))]⟩
abbrev tro (n : Int) (l : List Cu) : SV Unit := ⟨.agg, [.c (.sc (.int .i64 n)), .c (.sl true 6 () (CL l))]⟩
abbrev trbx (n : Int) (l : List Cu) : SV Unit := ⟨.one, [.c (.bx true () [.sc (.int .i64 n), .sl false 6 () (CL l)])]⟩
abbrev trobx (n : Int) (l : List Cu) : SV Unit := ⟨.one, [.c (.bx true () [.sc (.int .i64 n), .sl true 6 () (CL l)])]⟩
abbrev cuts (l : List Cu) : SV Unit := ⟨.one, [.c (.sl false 6 () (CL l))]⟩
def toCuts : List (Cell Unit) → Option (List Cu)
  | [] => some []
  | .sc (.int .i64 a) :: .sc (.int .i64 b) :: .sc (.int .i64 c) :: .sc (.int .i64 d) :: .sc (.int .i64 e) :: .sc (.int .i64 f) :: l => match toCuts l with
    | some m => some ((a, b, c, d, e, f) :: m)
    | none => none
  | _ => none
@[simp] theorem toCuts_CL (l : List Cu) : toCuts (CL l) = some l := by
  induction l with
  | nil => rfl
  | cons x l ih => simp only [CL, toCuts, ih]
theorem toCuts_eq : ∀ {row : List (Cell Unit)} {l : List Cu}, toCuts row = some l → row = CL l := by
  intro row
  induction row using toCuts.induct with
  | case1 => intro l h; simp only [toCuts, Option.some.injEq] at h; subst h; rfl
  | case2 a b c d e f l m hm ih => intro l' h; simp only [toCuts, hm, Option.some.injEq] at h; subst h; rw [ih hm]; rfl
  | case3 a b c d e f l hm ih => intro l' h; simp only [toCuts, hm] at h; cases h
  | case4 r h1 h2 =>
    intro l' h
    unfold toCuts at h
    split at h
    all_goals first | exact (h1 rfl).elim | exact (h2 _ _ _ _ _ _ _ rfl).elim | cases h
def asTr : SV Unit → Option (Int × List Cu)
  | ⟨.agg, [.c (.sc (.int .i64 n)), .c (.sl false 6 () row)]⟩ => match toCuts row with
    | some l => some (n, l)
    | none => none
  | _ => none
@[simp] theorem asTr_tr (n : Int) (l : List Cu) : asTr (tr n l) = some (n, l) := by simp [asTr]
theorem asTr_eq {v : SV Unit} {x : Int × List Cu} (h : asTr v = some x) : v = tr x.1 x.2 := by
  unfold asTr at h
  split at h
  · next n row =>
    split at h
    · next l hl => simp only [Option.some.injEq] at h; subst h; rw [toCuts_eq hl]
    · cases h
  · cases h
def asCuts : SV Unit → Option (List Cu)
  | ⟨.one, [.c (.sl false 6 () row)]⟩ => toCuts row
  | _ => none
@[simp] theorem asCuts_cuts (l : List Cu) : asCuts (cuts l) = some l := toCuts_CL l
theorem asCuts_eq {v : SV Unit} {l : List Cu} (h : asCuts v = some l) : v = cuts l := by
  unfold asCuts at h
  split at h
  · rw [toCuts_eq h]
  · cases h
end Go.Proofs.Ytnmocjhpbobahaa.L
