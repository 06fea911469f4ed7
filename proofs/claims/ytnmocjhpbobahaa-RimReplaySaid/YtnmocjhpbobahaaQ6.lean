/- S1: symbolic runs by simp: the rules. -/
import Derived.Test.YtnmocjhpbobahaaRows
import Derived.Test.YtnmocjhpbobahaaQ5
import Derived.IntWalk
set_option linter.unusedVariables false
set_option linter.unusedSimpArgs false
set_option linter.unnecessarySimpa false
namespace Go.Proofs.Ytnmocjhpbobahaa.L
open Go Go.RowKit
set_option maxRecDepth 100000

attribute [simp] dstB zeroN
abbrev I (n : Int) : Cell Unit := .sc (.int .i64 n)
/-- Numbers as cells (closed to simp's own rules of `map`). -/
def IL (l : List Int) : List (Cell Unit) := l.map I
@[simp] theorem IL_length (l : List Int) : (IL l).length = l.length := by simp [IL]
@[simp] theorem IL_copy (l : List Int) : (IL l).all Cell.copyable = true := by induction l <;> simp_all [IL, Cell.copyable]
@[simp] theorem IL_alive (l : List Int) : (IL l).all (fun c => !c.isDead) = true := by induction l <;> simp_all [IL, Cell.isDead]
@[simp] theorem IL_nil_append (l m : List Int) : IL l ++ IL m = IL (l ++ m) := by simp [IL]
@[simp] theorem IL_append1 (l : List Int) (n : Int) : IL l ++ [.sc (.int .i64 n)] = IL (l ++ [n]) := by simp [IL]
@[simp] theorem IL_drop (l : List Int) (k : Nat) : (IL l).drop k = IL (l.drop k) := by simp [IL]
@[simp] theorem IL_take (l : List Int) (k : Nat) : (IL l).take k = IL (l.take k) := by simp [IL]
@[simp] theorem IL_set (l : List Int) (k : Nat) (n : Int) : (IL l).set k (.sc (.int .i64 n)) = IL (l.set k n) := by simp [IL]
theorem IL_one (l : List Int) (k : Nat) (h : k < l.length) : (IL ((l.drop k).take 1)).map SC.c = [.c (.sc (.int .i64 (l.getD k 0)))] := by
  have : List.take 1 (List.drop k l) = [l[k]] := by rw [List.drop_eq_getElem_cons h]; rfl
  rw [this]
  simp [IL, List.getD_eq_getElem?_getD, h]
abbrev ints (l : List Int) : SV Unit := ⟨.one, [.c (.sl false 1 () (IL l))]⟩
abbrev iv (n : Int) : SV Unit := ⟨.one, [.c (.sc (.int .i64 n))]⟩
abbrev bv (b : Bool) : SV Unit := ⟨.one, [.c (.sc (.bool b))]⟩

theorem rp_reg_seq {P : Program} {E : Env} {N id : Nat} {t : List (Nat × RC)} {ops : Array Oper} {rc : RC} {σ σ1 : St Unit} {Q : Ex → St Unit → Prop} (hl : t.lookup id = some rc) (hs : seqL P E N ops ops.toList σ = some σ1) (h : Q .normal (St.pick rc.keep σ1)) :
    RP (regOf P E N t) (.region id ops false) σ Q := by
  refine rp_region ?_ h
  simp only [regOf, hl, Bool.false_eq_true, if_false, hs]
theorem rp_reg_draw {P : Program} {E : Env} {N id : Nat} {t : List (Nat × RC)} {ops : Array Oper} {rc : RC} {σ σ1 : St Unit} {Q : Ex → St Unit → Prop} (hl : t.lookup id = some rc) (hs : drawRun P E N ops rc.cert 0 rc.plan σ = some σ1) (h : Q .normal (St.pick rc.keep σ1)) :
    RP (regOf P E N t) (.region id ops true) σ Q := by
  refine rp_region ?_ h
  simp only [regOf, hl, if_true, hs]
section
variable {reg : Reg} {b : Code} {Q : Ex → St Unit → Prop} {σ : St Unit} {i id : Nat} {I : Nat → St Unit → Prop} {k : Nat}
@[simp] theorem thenR_normal : thenR reg b Q .normal σ = RP reg b σ Q := rfl
@[simp] theorem thenR_exit : thenR reg b Q (.exit i) σ = Q (.exit i) σ := rfl
@[simp] theorem thenR_ret : thenR reg b Q .ret σ = Q .ret σ := rfl
@[simp] theorem inBlock_normal : inBlock id Q .normal σ = Q .normal σ := rfl
@[simp] theorem inBlock_exit : inBlock id Q (.exit i) σ = (if i = id then Q .normal σ else Q (.exit i) σ) := rfl
@[simp] theorem inBlock_ret : inBlock id Q .ret σ = Q .ret σ := rfl
@[simp] theorem inScope_normal : inScope Q .normal σ = Q .normal σ := rfl
@[simp] theorem inScope_exit : inScope Q (.exit i) σ = Q (.exit i) σ := rfl
@[simp] theorem inScope_ret : inScope Q .ret σ = Q .ret σ := rfl
@[simp] theorem nextR_normal : nextR I k Q .normal σ = ∃ k', k' < k ∧ I k' σ := rfl
@[simp] theorem nextR_exit : nextR I k Q (.exit i) σ = Q (.exit i) σ := rfl
@[simp] theorem nextR_ret : nextR I k Q .ret σ = Q .ret σ := rfl
end
/-! ### one behind the other -/
def thenO {α β : Type} : Option α → (α → Option β) → Option β
  | some a, f => f a
  | none, _ => none
@[simp] theorem thenO_some {α β : Type} (a : α) (f : α → Option β) : thenO (some a) f = f a := (rfl)
@[simp] theorem seqL_nil (P : Program) (E : Env) (N : Nat) (ops : Array Oper) (σ : St Unit) : seqL P E N ops [] σ = some σ := rfl
@[simp] theorem seqL_cons (P : Program) (E : Env) (N : Nat) (ops : Array Oper) (o : Oper) (l : List Oper) (x : Nat × SV Unit) (σ : St Unit) : seqL P E N ops (o :: l) (x :: σ) = thenO (stepOp P E N ops (x :: σ) o) (seqL P E N ops l) := by
  simp only [seqL]; cases stepOp P E N ops (x :: σ) o <;> rfl
def appE (σ : St Unit) (e : Eff Unit) : Option (St Unit) := some (σ.app e)
@[simp] theorem step_plain (P : Program) (E : Env) (N : Nat) (ops : Array Oper) (x : Nat × SV Unit) (σ : St Unit) (t : Nat) (op : Op) (ty : TypeId) (pos : String) (af : Array Edge) (ht : dstB N t = true) :
    stepOp P E N ops (x :: σ) ⟨some t, op, ty, pos, af, none⟩ = thenO (ieff P E ΩU (x :: σ) ⟨some t, op, ty, pos, af, none⟩) (appE (x :: σ)) := by
  simp only [stepOp, wantedS, dstOk, ht, if_true]
  cases ieff P E ΩU (x :: σ) ⟨some t, op, ty, pos, af, none⟩ <;> rfl
@[simp] theorem step_none (P : Program) (E : Env) (N : Nat) (ops : Array Oper) (x : Nat × SV Unit) (σ : St Unit) (op : Op) (ty : TypeId) (pos : String) (af : Array Edge) :
    stepOp P E N ops (x :: σ) ⟨none, op, ty, pos, af, none⟩ = thenO (ieff P E ΩU (x :: σ) ⟨none, op, ty, pos, af, none⟩) (appE (x :: σ)) := by
  simp only [stepOp, wantedS, dstOk, if_true]
  cases ieff P E ΩU (x :: σ) ⟨none, op, ty, pos, af, none⟩ <;> rfl
def effP (t : Nat) (v : SV Unit) : Eff Unit := effPut t v
@[simp] theorem effPut_P (t : Nat) (v : SV Unit) : effPut t v = effP t v := rfl
@[simp] theorem appE_put (x : Nat × SV Unit) (σ : St Unit) (t : Nat) (v : SV Unit) : appE (x :: σ) (effP t v) = some (St.kill (St.put (x :: σ) t v) [(t, [])]) := rfl
@[simp] theorem appE_mk (x : Nat × SV Unit) (σ : St Unit) (p q : List (Nat × SV Unit)) (k : List (Nat × List Nat)) : appE (x :: σ) ⟨p, k, q⟩ = some (putAll (St.kill (putAll (x :: σ) p) k) q) := rfl
attribute [simp] putAll
@[simp] theorem kill_one (x : Nat × SV Unit) (σ : St Unit) (k : Nat × List Nat) (ks : List (Nat × List Nat)) : St.kill (x :: σ) (k :: ks) = (x.1, x.2.kill (k :: ks)) :: St.kill σ (k :: ks) := rfl
@[simp] theorem kill_nil1 (ks : List (Nat × List Nat)) : St.kill ([] : St Unit) ks = [] := by cases ks <;> rfl
attribute [simp] St.put SV.kill SC.kill SC.dies
/-! ### reading slots -/
@[simp] theorem get_cons (s t : Nat) (v : SV Unit) (σ : St Unit) : St.get ((t, v) :: σ) s = if s = t then v else St.get σ s := by
  by_cases h : s = t
  · subst h; simp [St.get, List.lookup]
  · have hb : (s == t) = false := by simpa using h
    simp [St.get, List.lookup, hb, h]
def gi (σ : St Unit) (x : Operand) : Int := match valOf σ x with
  | some (.int _ n) => n
  | _ => 0
def isI (σ : St Unit) (x : Operand) : Bool := match valOf σ x with
  | some (.int .i64 _) => true
  | _ => false
def gb (σ : St Unit) (x : Operand) : Bool := match valOf σ x with
  | some (.bool b) => b
  | _ => false
def isB (σ : St Unit) (x : Operand) : Bool := match valOf σ x with
  | some (.bool _) => true
  | _ => false
/-! ### numbers -/
def i64r (op : BinOp) (a b : Int) : Option Value := match op with
  | .add => some (.int .i64 (IntKind.i64.wrap (a + b)))
  | .sub => some (.int .i64 (IntKind.i64.wrap (a - b)))
  | .mul => some (.int .i64 (IntKind.i64.wrap (a * b)))
  | .eql => some (.bool (decide (a = b)))
  | .neq => some (.bool (!decide (a = b)))
  | .lss => some (.bool (decide (a < b)))
  | .leq => some (.bool (decide (a ≤ b)))
  | .gtr => some (.bool (decide (b < a)))
  | .geq => some (.bool (decide (b ≤ a)))
  | _ => none
theorem sem_bin {op : BinOp} {ρ : Operand → Value} {x y : Operand} {a b : Int} {v : Value} {t : Option Nat} {ty : TypeId} {pos : String} {af : Array Edge} {g : Option (Nat × Bool)} (hx : ρ x = .int .i64 a) (hy : ρ y = .int .i64 b) (h : i64r op a b = some v) :
    pv Try.prog (execOp ρ ⟨t, .binOp op 3 x y 3, ty, pos, af, g⟩) = some (.value v) := by
  cases op <;> simp only [i64r, Option.some.injEq, reduceCtorEq] at h <;> subst h <;> simp only [execOp, hx, hy] <;> kernel_rfl
/-- Two numbers; a truth value. -/
def num2 (u v : Option Value) (f : Int → Int → SV Unit) (t : Nat) (z : Option (Eff Unit)) : Option (Eff Unit) := match u, v with
  | some (.int .i64 a), some (.int .i64 b) => some (effP t (f a b))
  | _, _ => z
@[simp] theorem num2_i (a b : Int) (f : Int → Int → SV Unit) (t : Nat) (z : Option (Eff Unit)) : num2 (some (.int .i64 a)) (some (.int .i64 b)) f t z = some (effP t (f a b)) := rfl
def num2O (u v : Option Value) (f : Int → Int → Option (SV Unit)) (t : Nat) (z : Option (Eff Unit)) : Option (Eff Unit) := match u, v with
  | some (.int .i64 a), some (.int .i64 b) => match f a b with
    | some r => some (effP t r)
    | none => z
  | _, _ => z
@[simp] theorem num2O_i (a b : Int) (f : Int → Int → Option (SV Unit)) (t : Nat) (z : Option (Eff Unit)) : num2O (some (.int .i64 a)) (some (.int .i64 b)) f t z = match f a b with
    | some r => some (effP t r)
    | none => z := rfl
def effZ (P : Program) (σ : St Unit) (t : Nat) (o : Oper) : Option (Eff Unit) := effPure P σ t o
theorem eff_sem2 {σ : St Unit} {t : Nat} {x y : Operand} {a b : Int} {v : Value} {w : SV Unit} {o : Oper} (hx : valOf σ x = some (.int .i64 a)) (hy : valOf σ y = some (.int .i64 b)) (ho : o.op.operands.toList = [x, y]) (hp : pureOp o.op = true)
    (h : ∀ ρ : Operand → Value, ρ x = .int .i64 a → ρ y = .int .i64 b → pv Try.prog (execOp ρ o) = some (.value v)) (hw : ofVal v = some w) : effPure Try.prog σ t o = some (effP t w) := by
  unfold effPure
  rw [if_pos (by simp [ho, hp, hx, hy])]
  rw [h _ (by rw [hx]; rfl) (by rw [hy]; rfl)]
  simp [hw]
section
variable {σ : St Unit} {t : Nat} {x y : Operand} {d : Option Nat} {ty : TypeId} {pos : String} {af : Array Edge} {g : Option (Nat × Bool)}
theorem eff_num {op : BinOp} {f : Int → Int → SV Unit} (vf : Int → Int → Value) (h : ∀ a b, i64r op a b = some (vf a b)) (hf : ∀ a b, ofVal (vf a b) = some (f a b)) :
    effPure Try.prog σ t ⟨d, .binOp op 3 x y 3, ty, pos, af, g⟩ = num2 (valOf σ x) (valOf σ y) f t (effZ Try.prog σ t ⟨d, .binOp op 3 x y 3, ty, pos, af, g⟩) := by
  unfold num2
  split
  · next a b hx hy =>
    exact eff_sem2 hx hy rfl rfl (fun ρ h1 h2 => sem_bin h1 h2 (h a b)) (hf a b)
  · rfl
@[simp] theorem eff_add : effPure Try.prog σ t ⟨d, .binOp .add 3 x y 3, ty, pos, af, g⟩ = num2 (valOf σ x) (valOf σ y) (fun a b => iv (IntKind.i64.wrap (a + b))) t (effZ Try.prog σ t ⟨d, .binOp .add 3 x y 3, ty, pos, af, g⟩) := eff_num _ (fun _ _ => rfl) (fun _ _ => rfl)
@[simp] theorem eff_sub : effPure Try.prog σ t ⟨d, .binOp .sub 3 x y 3, ty, pos, af, g⟩ = num2 (valOf σ x) (valOf σ y) (fun a b => iv (IntKind.i64.wrap (a - b))) t (effZ Try.prog σ t ⟨d, .binOp .sub 3 x y 3, ty, pos, af, g⟩) := eff_num _ (fun _ _ => rfl) (fun _ _ => rfl)
@[simp] theorem eff_mul : effPure Try.prog σ t ⟨d, .binOp .mul 3 x y 3, ty, pos, af, g⟩ = num2 (valOf σ x) (valOf σ y) (fun a b => iv (IntKind.i64.wrap (a * b))) t (effZ Try.prog σ t ⟨d, .binOp .mul 3 x y 3, ty, pos, af, g⟩) := eff_num _ (fun _ _ => rfl) (fun _ _ => rfl)
@[simp] theorem eff_eql : effPure Try.prog σ t ⟨d, .binOp .eql 3 x y 3, ty, pos, af, g⟩ = num2 (valOf σ x) (valOf σ y) (fun a b => bv (decide (a = b))) t (effZ Try.prog σ t ⟨d, .binOp .eql 3 x y 3, ty, pos, af, g⟩) := eff_num _ (fun _ _ => rfl) (fun _ _ => rfl)
@[simp] theorem eff_neq : effPure Try.prog σ t ⟨d, .binOp .neq 3 x y 3, ty, pos, af, g⟩ = num2 (valOf σ x) (valOf σ y) (fun a b => bv (!decide (a = b))) t (effZ Try.prog σ t ⟨d, .binOp .neq 3 x y 3, ty, pos, af, g⟩) := eff_num _ (fun _ _ => rfl) (fun _ _ => rfl)
@[simp] theorem eff_lss : effPure Try.prog σ t ⟨d, .binOp .lss 3 x y 3, ty, pos, af, g⟩ = num2 (valOf σ x) (valOf σ y) (fun a b => bv (decide (a < b))) t (effZ Try.prog σ t ⟨d, .binOp .lss 3 x y 3, ty, pos, af, g⟩) := eff_num _ (fun _ _ => rfl) (fun _ _ => rfl)
@[simp] theorem eff_leq : effPure Try.prog σ t ⟨d, .binOp .leq 3 x y 3, ty, pos, af, g⟩ = num2 (valOf σ x) (valOf σ y) (fun a b => bv (decide (a ≤ b))) t (effZ Try.prog σ t ⟨d, .binOp .leq 3 x y 3, ty, pos, af, g⟩) := eff_num _ (fun _ _ => rfl) (fun _ _ => rfl)
@[simp] theorem eff_gtr : effPure Try.prog σ t ⟨d, .binOp .gtr 3 x y 3, ty, pos, af, g⟩ = num2 (valOf σ x) (valOf σ y) (fun a b => bv (decide (b < a))) t (effZ Try.prog σ t ⟨d, .binOp .gtr 3 x y 3, ty, pos, af, g⟩) := eff_num _ (fun _ _ => rfl) (fun _ _ => rfl)
@[simp] theorem eff_geq : effPure Try.prog σ t ⟨d, .binOp .geq 3 x y 3, ty, pos, af, g⟩ = num2 (valOf σ x) (valOf σ y) (fun a b => bv (decide (b ≤ a))) t (effZ Try.prog σ t ⟨d, .binOp .geq 3 x y 3, ty, pos, af, g⟩) := eff_num _ (fun _ _ => rfl) (fun _ _ => rfl)
/-- a & b -/
def andI (a b : Int) : Int := IntKind.i64.wrap (((BitVec.ofInt 64 a &&& BitVec.ofInt 64 b).toNat : Nat) : Int)
theorem sem_and {ρ : Operand → Value} {a b : Int} (hx : ρ x = .int .i64 a) (hy : ρ y = .int .i64 b) : pv Try.prog (execOp ρ ⟨d, .binOp .and 3 x y 3, ty, pos, af, g⟩) = some (.value (.int .i64 (andI a b))) := by
  simp only [execOp, hx, hy]; kernel_rfl
@[simp] theorem eff_and : effPure Try.prog σ t ⟨d, .binOp .and 3 x y 3, ty, pos, af, g⟩ = num2 (valOf σ x) (valOf σ y) (fun a b => iv (andI a b)) t (effZ Try.prog σ t ⟨d, .binOp .and 3 x y 3, ty, pos, af, g⟩) := by
  unfold num2
  split
  · next a b hx hy => exact eff_sem2 hx hy rfl rfl (fun ρ h1 h2 => sem_and h1 h2) rfl
  · rfl
theorem sem_rem {ρ : Operand → Value} {a b : Int} (hb : b ≠ 0) (hx : ρ x = .int .i64 a) (hy : ρ y = .int .i64 b) : pv Try.prog (execOp ρ ⟨d, .binOp .rem 3 x y 3, ty, pos, af, g⟩) = some (.value (.int .i64 (a.tmod b))) := by
  have : pv Try.prog (execOp ρ ⟨d, .binOp .rem 3 x y 3, ty, pos, af, g⟩) = pv Try.prog ((Op.intDiv .rem .i64 a b).bind fun v => .pure (.value v)) := by
    simp only [execOp, hx, hy]; kernel_rfl
  rw [this]
  unfold Op.intDiv
  rw [if_neg hb]
  rfl
@[simp] theorem eff_rem : effPure Try.prog σ t ⟨d, .binOp .rem 3 x y 3, ty, pos, af, g⟩ = num2O (valOf σ x) (valOf σ y) (fun a b => if b ≠ 0 then some (iv (a.tmod b)) else none) t (effZ Try.prog σ t ⟨d, .binOp .rem 3 x y 3, ty, pos, af, g⟩) := by
  unfold num2O
  split
  · next a b hx hy =>
    by_cases hb : b = 0
    · subst hb; rfl
    · dsimp only; rw [if_pos hb]; exact eff_sem2 hx hy rfl rfl (fun ρ h1 h2 => sem_rem hb h1 h2) rfl
  · rfl
theorem sem_quo {ρ : Operand → Value} {a b : Int} (hb : b ≠ 0) (hx : ρ x = .int .i64 a) (hy : ρ y = .int .i64 b) : pv Try.prog (execOp ρ ⟨d, .binOp .quo 3 x y 3, ty, pos, af, g⟩) = some (.value (.int .i64 (IntKind.i64.wrap (a.tdiv b)))) := by
  have : pv Try.prog (execOp ρ ⟨d, .binOp .quo 3 x y 3, ty, pos, af, g⟩) = pv Try.prog ((Op.intDiv .quo .i64 a b).bind fun v => .pure (.value v)) := by
    simp only [execOp, hx, hy]; kernel_rfl
  rw [this]
  unfold Op.intDiv
  rw [if_neg hb]
  rfl
@[simp] theorem eff_quo : effPure Try.prog σ t ⟨d, .binOp .quo 3 x y 3, ty, pos, af, g⟩ = num2O (valOf σ x) (valOf σ y) (fun a b => if b ≠ 0 then some (iv (IntKind.i64.wrap (a.tdiv b))) else none) t (effZ Try.prog σ t ⟨d, .binOp .quo 3 x y 3, ty, pos, af, g⟩) := by
  unfold num2O
  split
  · next a b hx hy =>
    by_cases hb : b = 0
    · subst hb; rfl
    · dsimp only; rw [if_pos hb]; exact eff_sem2 hx hy rfl rfl (fun ρ h1 h2 => sem_quo hb h1 h2) rfl
  · rfl
theorem sem_min {ρ : Operand → Value} {a b : Int} {tys : Array TypeId} (hx : ρ x = .int .i64 a) (hy : ρ y = .int .i64 b) : pv Try.prog (execOp ρ ⟨d, .call { callee := .builtin .min, args := #[x, y], argTypes := tys }, ty, pos, af, g⟩) = some (.value (.int .i64 (if b < a then b else a))) := by
  have : (#[x, y] : Array Operand).map ρ = #[.int .i64 a, .int .i64 b] := by simp [hx, hy]
  simp only [execOp, resolve, this]; refine Eq.trans ?_ rfl; kernel_rfl
theorem sem_max {ρ : Operand → Value} {a b : Int} {tys : Array TypeId} (hx : ρ x = .int .i64 a) (hy : ρ y = .int .i64 b) : pv Try.prog (execOp ρ ⟨d, .call { callee := .builtin .max, args := #[x, y], argTypes := tys }, ty, pos, af, g⟩) = some (.value (.int .i64 (if a < b then b else a))) := by
  have : (#[x, y] : Array Operand).map ρ = #[.int .i64 a, .int .i64 b] := by simp [hx, hy]
  simp only [execOp, resolve, this]; refine Eq.trans ?_ rfl; kernel_rfl
@[simp] theorem eff_min {tys : Array TypeId} : effPure Try.prog σ t ⟨d, .call { callee := .builtin .min, args := #[x, y], argTypes := tys }, ty, pos, af, g⟩ = num2 (valOf σ x) (valOf σ y) (fun a b => iv (min a b)) t (effZ Try.prog σ t ⟨d, .call { callee := .builtin .min, args := #[x, y], argTypes := tys }, ty, pos, af, g⟩) := by
  unfold num2
  split
  · next a b hx hy => exact eff_sem2 hx hy rfl rfl (fun ρ h1 h2 => (sem_min h1 h2).trans (by rw [show (if b < a then b else a) = min a b by rw [Int.min_def]; split <;> split <;> omega])) rfl
  · rfl
@[simp] theorem eff_max {tys : Array TypeId} : effPure Try.prog σ t ⟨d, .call { callee := .builtin .max, args := #[x, y], argTypes := tys }, ty, pos, af, g⟩ = num2 (valOf σ x) (valOf σ y) (fun a b => iv (max a b)) t (effZ Try.prog σ t ⟨d, .call { callee := .builtin .max, args := #[x, y], argTypes := tys }, ty, pos, af, g⟩) := by
  unfold num2
  split
  · next a b hx hy => exact eff_sem2 hx hy rfl rfl (fun ρ h1 h2 => (sem_max h1 h2).trans (by rw [show (if a < b then b else a) = max a b by rw [Int.max_def]; split <;> split <;> omega])) rfl
  · rfl
def bool1 (u : Option Value) (f : Bool → SV Unit) (t : Nat) (z : Option (Eff Unit)) : Option (Eff Unit) := match u with
  | some (.bool a) => some (effP t (f a))
  | _ => z
@[simp] theorem bool1_b (a : Bool) (f : Bool → SV Unit) (t : Nat) (z : Option (Eff Unit)) : bool1 (some (.bool a)) f t z = some (effP t (f a)) := rfl
theorem sem_not {ρ : Operand → Value} {a : Bool} (hx : ρ x = .bool a) : pv Try.prog (execOp ρ ⟨d, .unOp .not 4 x, ty, pos, af, g⟩) = some (.value (.bool (!a))) := by
  simp only [execOp, hx]; kernel_rfl
@[simp] theorem eff_not : effPure Try.prog σ t ⟨d, .unOp .not 4 x, ty, pos, af, g⟩ = bool1 (valOf σ x) (fun a => bv (!a)) t (effZ Try.prog σ t ⟨d, .unOp .not 4 x, ty, pos, af, g⟩) := by
  unfold bool1
  split
  · next a hx =>
    unfold effPure
    rw [if_pos (by simp [pureOp, Op.operands, hx]), sem_not (a := a) (by rw [hx]; rfl)]
    rfl
  · rfl
def bool2 (u v : Option Value) (f : Bool → Bool → SV Unit) (t : Nat) (z : Option (Eff Unit)) : Option (Eff Unit) := match u, v with
  | some (.bool a), some (.bool b) => some (effP t (f a b))
  | _, _ => z
@[simp] theorem bool2_b (a b : Bool) (f : Bool → Bool → SV Unit) (t : Nat) (z : Option (Eff Unit)) : bool2 (some (.bool a)) (some (.bool b)) f t z = some (effP t (f a b)) := rfl
theorem sem_beq {ρ : Operand → Value} {a b : Bool} (hx : ρ x = .bool a) (hy : ρ y = .bool b) : pv Try.prog (execOp ρ ⟨d, .binOp .eql 4 x y 4, ty, pos, af, g⟩) = some (.value (.bool (a == b))) := by
  simp only [execOp, hx, hy]; cases a <;> cases b <;> kernel_rfl
@[simp] theorem eff_beq : effPure Try.prog σ t ⟨d, .binOp .eql 4 x y 4, ty, pos, af, g⟩ = bool2 (valOf σ x) (valOf σ y) (fun a b => bv (a == b)) t (effZ Try.prog σ t ⟨d, .binOp .eql 4 x y 4, ty, pos, af, g⟩) := by
  unfold bool2
  split
  · next a b hx hy =>
    unfold effPure
    rw [if_pos (by simp [pureOp, Op.operands, hx, hy]), sem_beq (a := a) (b := b) (by rw [hx]; rfl) (by rw [hy]; rfl)]
    rfl
  · rfl
end

attribute [simp] gi isI gb isB valOf SV.val SC.scal scals intOf? natOf? isSc

/-! ### the shapes of types -/
@[simp] theorem cells3 : Try.prog.cellsOf 3 = 1 := by kernel_rfl
@[simp] theorem und3 : Try.prog.underlying 3 = some (.int .i64) := by kernel_rfl
@[simp] theorem cells4 : Try.prog.cellsOf 4 = 1 := by kernel_rfl
@[simp] theorem und4 : Try.prog.underlying 4 = some .bool := by kernel_rfl
@[simp] theorem cells25 : Try.prog.cellsOf 39 = 1 := by kernel_rfl
@[simp] theorem und25 : Try.prog.underlying 39 = some (.slice 3) := by kernel_rfl
attribute [simp] ieff effMove opd slotOf shareFrom shareAll share Cell.isOwn one orElse aggOr isAggB SD.sz SD.row sdOf adOf
attribute [simp] effIndexAddr effLoad effLen effExtract effFieldAddr effNil constSV cellOfConst szOf
attribute [simp] effAssign takeTop topSC SV.top scTop pend0 Pend.fin
attribute [simp] Nat.add_one_le_iff
@[simp] theorem appE_fin (x : Nat × SV Unit) (σ : St Unit) (t : Nat) (v : SV Unit) : appE (x :: σ) ⟨[(t, v)], [(t, [])], []⟩ = some (St.kill (St.put (x :: σ) t v) [(t, [])]) := rfl
attribute [simp] RC.d
theorem pick_get (K : List Nat) (σ : St Unit) : St.pick K σ = K.map fun s => (s, (σ.get s).only K) := rfl
attribute [simp] SV.only SC.only
attribute [simp] pick_get List.lookup

/-! ### guarded operations; a choice -/
def guardO (b : Option Bool) (x y : Option (St Unit)) : Option (St Unit) := match b with
  | some true => x
  | some false => y
  | none => none
@[simp] theorem guardO_true (x y : Option (St Unit)) : guardO (some true) x y = x := rfl
@[simp] theorem guardO_false (x y : Option (St Unit)) : guardO (some false) x y = y := rfl
@[simp] theorem step_guard (P : Program) (E : Env) (N : Nat) (ops : Array Oper) (x : Nat × SV Unit) (σ : St Unit) (t j : Nat) (w : Bool) (op : Op) (ty : TypeId) (pos : String) (af : Array Edge) (ht : dstB N t = true) :
    stepOp P E N ops (x :: σ) ⟨some t, op, ty, pos, af, some (j, w)⟩ = guardO (wantedS (x :: σ) ops ⟨some t, op, ty, pos, af, some (j, w)⟩) (thenO (ieff P E ΩU (x :: σ) ⟨some t, op, ty, pos, af, some (j, w)⟩) (appE (x :: σ))) (appE (x :: σ) (effP t undefSV)) := by
  simp only [stepOp, dstOk, ht, if_true]
  cases wantedS (x :: σ) ops ⟨some t, op, ty, pos, af, some (j, w)⟩ with
  | none => rfl
  | some b => cases b with
    | true => simp only [guardO]; cases ieff P E ΩU (x :: σ) ⟨some t, op, ty, pos, af, some (j, w)⟩ <;> rfl
    | false => rfl
attribute [simp] wantedS undefSV
theorem sem_pick (ρ : Operand → Value) (c a b : Operand) (k : Bool) (t : Option Nat) (ty : TypeId) (pos : String) (af : Array Edge) (g : Option (Nat × Bool)) (hc : ρ c = .bool k) : pv Try.prog (execOp ρ ⟨t, .pick c a b, ty, pos, af, g⟩) = some (.value (if k then ρ a else ρ b)) := by
  simp only [execOp, hc]
  cases k <;> rfl
def pick3 (c a b : Option Value) (t : Nat) (z : Option (Eff Unit)) : Option (Eff Unit) := match c, a, b with
  | some (.bool k), some u, some v => (ofVal (if k = true then u else v)).map (effP t)
  | _, _, _ => z
@[simp] theorem pick3_b (k : Bool) (u v : Value) (t : Nat) (z : Option (Eff Unit)) : pick3 (some (.bool k)) (some u) (some v) t z = (ofVal (if k = true then u else v)).map (effP t) := rfl
@[simp] theorem eff_pick {σ : St Unit} {t : Nat} {c a b : Operand} {d : Option Nat} {ty : TypeId} {pos : String} {af : Array Edge} {g : Option (Nat × Bool)} :
    effPure Try.prog σ t ⟨d, .pick c a b, ty, pos, af, g⟩ = pick3 (valOf σ c) (valOf σ a) (valOf σ b) t (effZ Try.prog σ t ⟨d, .pick c a b, ty, pos, af, g⟩) := by
  unfold pick3
  split
  · next k u v hc ha hb =>
    unfold effPure
    rw [if_pos (by simp [pureOp, Op.operands, hc, ha, hb, -valOf]), sem_pick (k := k) (hc := by simp only [hc]; rfl)]
    simp only [ha, hb, Option.getD_some]
    cases k <;> rfl
  · rfl
attribute [simp] ofVal
/-! ### regions in whatever order -/
@[simp] theorem draw_one (P : Program) (E : Env) (N : Nat) (ops : Array Oper) (C : Cert) (j : Nat) (pl : List Nat × List Nat) (τ : St Unit) : drawRun P E N ops C j [pl] τ = phaseRun P E N ops C j pl τ := by
  unfold drawRun; cases phaseRun P E N ops C j pl τ <;> rfl
def writeO (P : Program) (E : Env) (N : Nat) (ops : Array Oper) (C : Cert) (i : Nat) (o : Oper) (S : St Unit) : Option (St Unit) := if (rdO S ops o).all (okRead C i) then thenO (stepEff P E N ops S o) (appE S) else none
@[simp] theorem draw_more (P : Program) (E : Env) (N : Nat) (ops : Array Oper) (C : Cert) (j : Nat) (pl pl' : List Nat × List Nat) (rest : List (List Nat × List Nat)) (τ : St Unit) (i : Nat) (o : Oper) (hi : C.ws[j]? = some i) (ho : ops[i]? = some o) :
    drawRun P E N ops C j (pl :: pl' :: rest) τ = thenO (phaseRun P E N ops C j pl τ) fun S => thenO (writeO P E N ops C i o S) fun S => drawRun P E N ops C (j + 1) (pl' :: rest) S := by
  rw [drawRun]
  cases phaseRun P E N ops C j pl τ with
  | none => rfl
  | some S =>
    simp only [thenO_some, writeO, hi, ho]
    cases stepEff P E N ops S o with
    | none => simp only; split <;> rfl
    | some e => simp only; split <;> rfl
attribute [simp] phaseRun rootsOk doAgain
def freshO (P : Program) (E : Env) (N : Nat) (ops : Array Oper) (C : Cert) (i d : Nat) (o : Oper) (τ : St Unit) (e : Eff Unit) : Option (St Unit) := match isPut e d with
  | some v => if (rdO τ ops o).all (okRead C i) && (rootsL v.cs).all (okRead C i) then some (τ.put d v) else none
  | none => none
def opO (ops : Array Oper) (i : Nat) (f : Nat → Oper → Option (St Unit)) : Option (St Unit) := match ops[i]? with
  | some o => match o.dst with
    | some d => f d o
    | none => none
  | none => none
@[simp] theorem fresh_nil (P : Program) (E : Env) (N : Nat) (ops : Array Oper) (C : Cert) (τ : St Unit) : doFresh P E N ops C [] τ = some τ := rfl
@[simp] theorem fresh_cons (P : Program) (E : Env) (N : Nat) (ops : Array Oper) (C : Cert) (i : Nat) (l : List Nat) (x : Nat × SV Unit) (τ : St Unit) :
    doFresh P E N ops C (i :: l) (x :: τ) = thenO (opO ops i fun d o => thenO (stepEff P E N ops (x :: τ) o) (freshO P E N ops C i d o (x :: τ))) (doFresh P E N ops C l) := by
  simp only [doFresh, opO, freshO]
  cases ops[i]? with
  | none => rfl
  | some o =>
    simp only
    cases o.dst with
    | none => rfl
    | some d =>
      simp only
      cases stepEff P E N ops (x :: τ) o with
      | none => rfl
      | some e =>
        simp only [thenO_some, freshO]
        cases isPut e d with
        | none => rfl
        | some v => simp only; split <;> rfl
@[simp] theorem isPut_P (d : Nat) (v : SV Unit) : isPut (effP d v) d = some v := by simp [isPut, effP, effPut]
@[simp] theorem freshO_put (P : Program) (E : Env) (N : Nat) (ops : Array Oper) (C : Cert) (i d : Nat) (o : Oper) (x : Nat × SV Unit) (τ : St Unit) (v : SV Unit) (h1 : (rdO (x :: τ) ops o).all (okRead C i) = true) (h2 : (rootsL v.cs).all (okRead C i) = true) :
    freshO P E N ops C i d o (x :: τ) (effP d v) = some (St.put (x :: τ) d v) := by
  simp only [freshO, isPut_P, h1, h2, Bool.and_self, if_true]
attribute [simp] opO
def guardE (b : Option Bool) (x y : Option (Eff Unit)) : Option (Eff Unit) := match b with
  | some true => x
  | some false => y
  | none => none
@[simp] theorem guardE_true (x y : Option (Eff Unit)) : guardE (some true) x y = x := rfl
@[simp] theorem guardE_false (x y : Option (Eff Unit)) : guardE (some false) x y = y := rfl
@[simp] theorem stepEff_plain (P : Program) (E : Env) (N : Nat) (ops : Array Oper) (σ : St Unit) (t : Nat) (op : Op) (ty : TypeId) (pos : String) (af : Array Edge) (ht : dstB N t = true) :
    stepEff P E N ops σ ⟨some t, op, ty, pos, af, none⟩ = ieff P E ΩU σ ⟨some t, op, ty, pos, af, none⟩ := by
  simp only [stepEff, wantedS, dstOk, ht, if_true]
@[simp] theorem stepEff_none (P : Program) (E : Env) (N : Nat) (ops : Array Oper) (σ : St Unit) (op : Op) (ty : TypeId) (pos : String) (af : Array Edge) :
    stepEff P E N ops σ ⟨none, op, ty, pos, af, none⟩ = ieff P E ΩU σ ⟨none, op, ty, pos, af, none⟩ := by
  simp only [stepEff, wantedS, dstOk, if_true]
@[simp] theorem stepEff_guard (P : Program) (E : Env) (N : Nat) (ops : Array Oper) (σ : St Unit) (t j : Nat) (w : Bool) (op : Op) (ty : TypeId) (pos : String) (af : Array Edge) (ht : dstB N t = true) :
    stepEff P E N ops σ ⟨some t, op, ty, pos, af, some (j, w)⟩ = guardE (wantedS σ ops ⟨some t, op, ty, pos, af, some (j, w)⟩) (ieff P E ΩU σ ⟨some t, op, ty, pos, af, some (j, w)⟩) (some (effP t undefSV)) := by
  simp only [stepEff, dstOk, ht, if_true]
  cases wantedS σ ops ⟨some t, op, ty, pos, af, some (j, w)⟩ with
  | none => rfl
  | some b => cases b <;> rfl
attribute [simp] rdO rdOps rdOp rdSlot rdGuard rootsL SC.roots okRead Cert.anc Op.operands Call.operands
attribute [simp] List.range List.range.loop Nat.testBit
attribute [simp] rowAtP
@[simp] theorem seen_IL (r : Nat) (p : List Nat) : ∀ (l : List Int) (off : Nat), seen r p off (IL l) = some ((IL l).map SC.c)
  | [], _ => rfl
  | n :: l, off => by
    have := seen_IL r p l (off + 1)
    simp only [IL, List.map_cons, seen] at this ⊢
    rw [this]
    rfl
@[simp] theorem IL_mem_copy (l : List Int) : (∀ x : Cell Unit, x ∈ IL l → x.copyable = true) = True := eq_true (fun x hx => List.all_eq_true.1 (IL_copy l) x hx)
@[simp] theorem IL_mem_alive (l : List Int) : (∀ x : Cell Unit, x ∈ IL l → x.isDead = false) = True := eq_true (fun x hx => by simpa using List.all_eq_true.1 (IL_alive l) x hx)
@[simp] theorem IL_setRun : ∀ (b a : List Int) (k : Nat), setRun (IL a) k (IL b) = IL (setRun a k b)
  | [], a, k => rfl
  | n :: b, a, k => by
    have := IL_setRun b (a.set k n) (k + 1)
    simp only [IL, List.map_cons, setRun, List.map_set] at this ⊢
    exact this
@[simp] theorem setRun_len {β : Type} : ∀ (b a : List β) (k : Nat), (setRun a k b).length = a.length
  | [], _, _ => rfl
  | n :: b, a, k => by simp only [setRun]; rw [setRun_len b]; simp
@[simp] theorem nn1 (t : Nat) : (0 ≤ (t : Int) + 1) = True := eq_true (by omega)
@[simp] theorem cast_eq (a b : Nat) : ((a : Int) = (b : Int)) = (a = b) := propext Int.ofNat_inj
abbrev ow (l : List Int) : SV Unit := ⟨.one, [.c (.sl true 1 () (IL l))]⟩
@[simp] theorem zero3 : zeroCellsOf Try.prog () 3 = some [I 0] := by kernel_rfl
@[simp] theorem infos25 : infosOk Try.prog 39 = false := by kernel_rfl
@[simp] theorem bytes3 : Try.prog.bytesOf 3 = 8 := by kernel_rfl
@[simp] theorem zok3 : zeroOk Try.prog 3 = true := by kernel_rfl
@[simp] theorem omegaNil : ΩU.nil = () := rfl
@[simp] theorem omegaA : ΩU.a = () := rfl
attribute [simp] SV.dead effBuildSlice partsOf takeParts takeFrom fillParts fieldPl fieldTy SV.okPart Kd.flat SC.live SC.cell setRun
attribute [simp] effAppend newsOf SV.ownSl takeAt ovGet SV.getP SV.setP Cell.getC Cell.setC Cell.row Cell.withRow
@[simp] theorem dead_sc (v : Value) : (Cell.sc v : Cell Unit).isDead = false := rfl
@[simp] theorem dead_sl (o : Bool) (n : Nat) (row : List (Cell Unit)) : (Cell.sl o n () row).isDead = false := rfl
@[simp] theorem dead_bx (o : Bool) (row : List (Cell Unit)) : (Cell.bx o () row).isDead = false := rfl
@[simp] theorem dead_dead : (Cell.dead : Cell Unit).isDead = true := rfl
@[simp] theorem copy_sc (v : Value) : (Cell.sc v : Cell Unit).copyable = true := rfl
@[simp] theorem copy_frz (n : Nat) (row : List (Cell Unit)) : (Cell.sl false n () row).copyable = true := rfl
attribute [simp] takeAll takeSC SC.place effSlice bound sliceSC effCopy effStore writeO opO
/-! ### steps of the code -/
theorem condT {reg : Reg} {x : Operand} {a b : Code} {σ : St Unit} {Q : Ex → St Unit → Prop} (hx : valOf σ x = some (.bool true)) (h : RP reg a σ Q) : RP reg (.cond x a b) σ Q := rp_cond (t := true) hx (by simpa using h)
theorem condF {reg : Reg} {x : Operand} {a b : Code} {σ : St Unit} {Q : Ex → St Unit → Prop} (hx : valOf σ x = some (.bool false)) (h : RP reg b σ Q) : RP reg (.cond x a b) σ Q := rp_cond (t := false) hx (by simpa using h)
@[simp] theorem wrap_in (n : Int) (h : -9223372036854775808 ≤ n ∧ n ≤ 9223372036854775807) : IntKind.i64.wrap n = n := IntWalk.i64_in n h
theorem sr {P : Program} {E : Env} {N id : Nat} {t : List (Nat × RC)} {ops : Array Oper} {b : Code} {rc : RC} {σ σ1 : St Unit} {Q : Ex → St Unit → Prop} (hl : t.lookup id = some rc) (hs : seqL P E N ops ops.toList σ = some σ1) (h : RP (regOf P E N t) b (St.pick rc.keep σ1) Q) :
    RP (regOf P E N t) (.seq (.region id ops false) b) σ Q := rp_seq (rp_reg_seq hl hs h)
theorem sd {P : Program} {E : Env} {N id : Nat} {t : List (Nat × RC)} {ops : Array Oper} {b : Code} {rc : RC} {σ σ1 : St Unit} {Q : Ex → St Unit → Prop} (hl : t.lookup id = some rc) (hs : drawRun P E N ops rc.cert 0 rc.plan σ = some σ1) (h : RP (regOf P E N t) b (St.pick rc.keep σ1) Q) :
    RP (regOf P E N t) (.seq (.region id ops true) b) σ Q := rp_seq (rp_reg_draw hl hs h)
end Go.Proofs.Ytnmocjhpbobahaa.L
