/- RO: structs of numbers compared (printed by wip/gensame.py). -/
import Derived.Test.YtnmocjhpbobahaaZ36
set_option linter.unusedVariables false
set_option linter.unusedSimpArgs false
set_option linter.unnecessarySimpa false
namespace Go.Proofs.Ytnmocjhpbobahaa.L
open Go Go.RowKit
set_option maxRecDepth 100000
def loopS (fs : Array Field) (f : Field → Sem Bool) : Sem Bool := do
  for x in fs do
    if x.name ≠ "_" then
      if !(← f x) then return false
  pure true
theorem loopS_pv (P : Program) (fs : Array Field) (f : Field → Sem Bool) : pv P (loopS fs f) = allB (fs.toList.map fun x => if x.name ≠ "_" then pv P (f x) else some true) := by
  unfold loopS
  rw [← Array.forIn_toList]
  generalize fs.toList = l
  induction l with
  | nil => rfl
  | cons x l ih =>
    rw [List.forIn_cons, List.map_cons, allB, pv_bind, pv_bind]
    by_cases hx : x.name ≠ "_"
    · rw [if_pos hx, if_pos hx, pv_bind]
      cases pv P (f x) with
      | none => rfl
      | some b =>
        cases b with
        | true =>
          rw [pv_bind] at ih
          simpa [pv_ite, pv_pure] using ih
        | false => rfl
    · rw [if_neg hx, if_neg hx]
      rw [pv_bind] at ih
      simpa [pv_ite, pv_pure] using ih
section
variable {σ : St Unit} {t : Nat} {x y : Operand} {d : Option Nat} {ty tz : TypeId} {pos : String} {af : Array Edge} {g : Option (Nat × Bool)}
theorem pv_eqS (k : Nat) (t : TypeId) (fs : Array Field) (hu : pv Try.prog (underlying t) = some (.struct fs)) (hs : Try.prog.stoodInHeld t = false) (xs ys : Array Value) : pv Try.prog (Op.equalIn (k + 1) t (.agg xs) (.agg ys)) = pv Try.prog (loopS fs fun f => do
    Op.equalIn k f.type (← part f.type xs f.offset) (← part f.type ys f.offset)) := by
  rw [Op.equalIn, pv_bind, hu]
  simp only [Option.bind_some]
  rw [pv_bind]
  show (some Try.prog).bind _ = _
  simp only [Option.bind_some, hs, Bool.false_eq_true, if_false, loopS, bind_assoc]

def same6 (a0 a1 a2 a3 a4 a5 b0 b1 b2 b3 b4 b5 : Int) : Bool := a0 == b0 && (a1 == b1 && (a2 == b2 && (a3 == b3 && (a4 == b4 && (a5 == b5)))))
theorem same6_iff {a0 a1 a2 a3 a4 a5 b0 b1 b2 b3 b4 b5 : Int} : same6 a0 a1 a2 a3 a4 a5 b0 b1 b2 b3 b4 b5 = true ↔ a0 = b0 ∧ a1 = b1 ∧ a2 = b2 ∧ a3 = b3 ∧ a4 = b4 ∧ a5 = b5 := by simp [same6]
def cmp6 (u v : Option Value) (f : Bool → Bool) (t : Nat) (z : Option (Eff Unit)) : Option (Eff Unit) := match u, v with
  | some (.agg ⟨[.int .i64 a0, .int .i64 a1, .int .i64 a2, .int .i64 a3, .int .i64 a4, .int .i64 a5]⟩), some (.agg ⟨[.int .i64 b0, .int .i64 b1, .int .i64 b2, .int .i64 b3, .int .i64 b4, .int .i64 b5]⟩) => some (effP t (bv (f (same6 a0 a1 a2 a3 a4 a5 b0 b1 b2 b3 b4 b5))))
  | _, _ => z
@[simp] theorem cmp6_i (a0 a1 a2 a3 a4 a5 b0 b1 b2 b3 b4 b5 : Int) (f : Bool → Bool) (t : Nat) (z : Option (Eff Unit)) : cmp6 (some (.agg #[.int .i64 a0, .int .i64 a1, .int .i64 a2, .int .i64 a3, .int .i64 a4, .int .i64 a5])) (some (.agg #[.int .i64 b0, .int .i64 b1, .int .i64 b2, .int .i64 b3, .int .i64 b4, .int .i64 b5])) f t z = some (effP t (bv (f (same6 a0 a1 a2 a3 a4 a5 b0 b1 b2 b3 b4 b5)))) := rfl
def same2 (a0 a1 b0 b1 : Int) : Bool := a0 == b0 && (a1 == b1)
def cmp2 (u v : Option Value) (f : Bool → Bool) (t : Nat) (z : Option (Eff Unit)) : Option (Eff Unit) := match u, v with
  | some (.agg ⟨[.int .i64 a0, .int .i64 a1]⟩), some (.agg ⟨[.int .i64 b0, .int .i64 b1]⟩) => some (effP t (bv (f (same2 a0 a1 b0 b1))))
  | _, _ => z
@[simp] theorem cmp2_i (a0 a1 b0 b1 : Int) (f : Bool → Bool) (t : Nat) (z : Option (Eff Unit)) : cmp2 (some (.agg #[.int .i64 a0, .int .i64 a1])) (some (.agg #[.int .i64 b0, .int .i64 b1])) f t z = some (effP t (bv (f (same2 a0 a1 b0 b1)))) := rfl
theorem pvEq_Cr (a0 a1 a2 a3 a4 a5 b0 b1 b2 b3 b4 b5 : Int) : pv Try.prog (Op.equal 59 (.agg #[.int .i64 a0, .int .i64 a1, .int .i64 a2, .int .i64 a3, .int .i64 a4, .int .i64 a5]) (.agg #[.int .i64 b0, .int .i64 b1, .int .i64 b2, .int .i64 b3, .int .i64 b4, .int .i64 b5])) = some (same6 a0 a1 a2 a3 a4 a5 b0 b1 b2 b3 b4 b5) := by
  have hu : pv Try.prog (underlying 59) = some (.struct #[⟨"A", 3, 0, false, "", "", 0⟩, ⟨"B", 3, 1, false, "", "", 8⟩, ⟨"C", 3, 2, false, "", "", 16⟩, ⟨"P", 3, 3, false, "", "", 24⟩, ⟨"Q", 3, 4, false, "", "", 32⟩, ⟨"R", 3, 5, false, "", "", 40⟩]) := by kernel_rfl
  have hs : Try.prog.stoodInHeld 59 = false := by kernel_rfl
  have p0 : ∀ (v0 v1 v2 v3 v4 v5 : Int), pv Try.prog (part 3 #[.int .i64 v0, .int .i64 v1, .int .i64 v2, .int .i64 v3, .int .i64 v4, .int .i64 v5] 0) = some (.int .i64 v0) := fun v0 v1 v2 v3 v4 v5 => by kernel_rfl
  have p1 : ∀ (v0 v1 v2 v3 v4 v5 : Int), pv Try.prog (part 3 #[.int .i64 v0, .int .i64 v1, .int .i64 v2, .int .i64 v3, .int .i64 v4, .int .i64 v5] 1) = some (.int .i64 v1) := fun v0 v1 v2 v3 v4 v5 => by kernel_rfl
  have p2 : ∀ (v0 v1 v2 v3 v4 v5 : Int), pv Try.prog (part 3 #[.int .i64 v0, .int .i64 v1, .int .i64 v2, .int .i64 v3, .int .i64 v4, .int .i64 v5] 2) = some (.int .i64 v2) := fun v0 v1 v2 v3 v4 v5 => by kernel_rfl
  have p3 : ∀ (v0 v1 v2 v3 v4 v5 : Int), pv Try.prog (part 3 #[.int .i64 v0, .int .i64 v1, .int .i64 v2, .int .i64 v3, .int .i64 v4, .int .i64 v5] 3) = some (.int .i64 v3) := fun v0 v1 v2 v3 v4 v5 => by kernel_rfl
  have p4 : ∀ (v0 v1 v2 v3 v4 v5 : Int), pv Try.prog (part 3 #[.int .i64 v0, .int .i64 v1, .int .i64 v2, .int .i64 v3, .int .i64 v4, .int .i64 v5] 4) = some (.int .i64 v4) := fun v0 v1 v2 v3 v4 v5 => by kernel_rfl
  have p5 : ∀ (v0 v1 v2 v3 v4 v5 : Int), pv Try.prog (part 3 #[.int .i64 v0, .int .i64 v1, .int .i64 v2, .int .i64 v3, .int .i64 v4, .int .i64 v5] 5) = some (.int .i64 v5) := fun v0 v1 v2 v3 v4 v5 => by kernel_rfl
  rw [show Op.equal 59 (.agg #[.int .i64 a0, .int .i64 a1, .int .i64 a2, .int .i64 a3, .int .i64 a4, .int .i64 a5]) (.agg #[.int .i64 b0, .int .i64 b1, .int .i64 b2, .int .i64 b3, .int .i64 b4, .int .i64 b5]) = Op.equalIn (9999 + 1) 59 (.agg #[.int .i64 a0, .int .i64 a1, .int .i64 a2, .int .i64 a3, .int .i64 a4, .int .i64 a5]) (.agg #[.int .i64 b0, .int .i64 b1, .int .i64 b2, .int .i64 b3, .int .i64 b4, .int .i64 b5]) from rfl, pv_eqS 9999 _ _ hu hs, loopS_pv]
  simp only [List.map_cons, List.map_nil, ne_eq, String.reduceEq, not_false_eq_true, if_true, pv_bind, p0, p1, p2, p3, p4, p5, Option.bind_some, allB]
  simp only [pv_eqI 9998, show (9999 : Nat) = 9998 + 1 from rfl, Option.bind_some, same6]
  cases (a0 == b0) <;> cases (a1 == b1) <;> cases (a2 == b2) <;> cases (a3 == b3) <;> cases (a4 == b4) <;> cases (a5 == b5) <;> rfl
theorem sem_eqlCr {ρ : Operand → Value} {a0 a1 a2 a3 a4 a5 b0 b1 b2 b3 b4 b5 : Int} (hx : ρ x = (.agg #[.int .i64 a0, .int .i64 a1, .int .i64 a2, .int .i64 a3, .int .i64 a4, .int .i64 a5])) (hy : ρ y = (.agg #[.int .i64 b0, .int .i64 b1, .int .i64 b2, .int .i64 b3, .int .i64 b4, .int .i64 b5])) : pv Try.prog (execOp ρ ⟨d, .binOp .eql 59 x y tz, ty, pos, af, g⟩) = some (.value (.bool ( (same6 a0 a1 a2 a3 a4 a5 b0 b1 b2 b3 b4 b5)))) := by
  have e0 : pv Try.prog (eqGuard .eql 59 x y (.agg #[.int .i64 a0, .int .i64 a1, .int .i64 a2, .int .i64 a3, .int .i64 a4, .int .i64 a5]) (.agg #[.int .i64 b0, .int .i64 b1, .int .i64 b2, .int .i64 b3, .int .i64 b4, .int .i64 b5])) = some () := by kernel_rfl
  have e1 : binOp .eql 59 (.agg #[.int .i64 a0, .int .i64 a1, .int .i64 a2, .int .i64 a3, .int .i64 a4, .int .i64 a5]) (.agg #[.int .i64 b0, .int .i64 b1, .int .i64 b2, .int .i64 b3, .int .i64 b4, .int .i64 b5]) = (do pure (.bool (← Op.equal 59 (.agg #[.int .i64 a0, .int .i64 a1, .int .i64 a2, .int .i64 a3, .int .i64 a4, .int .i64 a5]) (.agg #[.int .i64 b0, .int .i64 b1, .int .i64 b2, .int .i64 b3, .int .i64 b4, .int .i64 b5])))) := rfl
  simp only [execOp, hx, hy, e1, pv_bind, e0, Option.bind_some, pvEq_Cr]
  rfl
@[simp] theorem eff_eqlCr : effPure Try.prog σ t ⟨d, .binOp .eql 59 x y tz, ty, pos, af, g⟩ = cmp6 (valOf σ x) (valOf σ y) (fun b => b) t (effZ Try.prog σ t ⟨d, .binOp .eql 59 x y tz, ty, pos, af, g⟩) := by
  unfold cmp6
  split
  · next a0 a1 a2 a3 a4 a5 b0 b1 b2 b3 b4 b5 hx hy =>
    unfold effPure
    rw [if_pos (by simp [pureOp, Op.operands, hx, hy, -valOf])]
    rw [sem_eqlCr (ρ := fun x => (valOf σ x).getD undef) (a0 := a0) (a1 := a1) (a2 := a2) (a3 := a3) (a4 := a4) (a5 := a5) (b0 := b0) (b1 := b1) (b2 := b2) (b3 := b3) (b4 := b4) (b5 := b5) (by show (valOf σ x).getD undef = _; rw [hx]; rfl) (by show (valOf σ y).getD undef = _; rw [hy]; rfl)]
    rfl
  · rfl
theorem pvEq_Ct (a0 a1 a2 a3 a4 a5 b0 b1 b2 b3 b4 b5 : Int) : pv Try.prog (Op.equal 62 (.agg #[.int .i64 a0, .int .i64 a1, .int .i64 a2, .int .i64 a3, .int .i64 a4, .int .i64 a5]) (.agg #[.int .i64 b0, .int .i64 b1, .int .i64 b2, .int .i64 b3, .int .i64 b4, .int .i64 b5])) = some (same6 a0 a1 a2 a3 a4 a5 b0 b1 b2 b3 b4 b5) := by
  have hu : pv Try.prog (underlying 62) = some (.struct #[⟨"A", 3, 0, false, "", "", 0⟩, ⟨"B", 3, 1, false, "", "", 8⟩, ⟨"C", 3, 2, false, "", "", 16⟩, ⟨"P", 3, 3, false, "", "", 24⟩, ⟨"Q", 3, 4, false, "", "", 32⟩, ⟨"R", 3, 5, false, "", "", 40⟩]) := by kernel_rfl
  have hs : Try.prog.stoodInHeld 62 = false := by kernel_rfl
  have p0 : ∀ (v0 v1 v2 v3 v4 v5 : Int), pv Try.prog (part 3 #[.int .i64 v0, .int .i64 v1, .int .i64 v2, .int .i64 v3, .int .i64 v4, .int .i64 v5] 0) = some (.int .i64 v0) := fun v0 v1 v2 v3 v4 v5 => by kernel_rfl
  have p1 : ∀ (v0 v1 v2 v3 v4 v5 : Int), pv Try.prog (part 3 #[.int .i64 v0, .int .i64 v1, .int .i64 v2, .int .i64 v3, .int .i64 v4, .int .i64 v5] 1) = some (.int .i64 v1) := fun v0 v1 v2 v3 v4 v5 => by kernel_rfl
  have p2 : ∀ (v0 v1 v2 v3 v4 v5 : Int), pv Try.prog (part 3 #[.int .i64 v0, .int .i64 v1, .int .i64 v2, .int .i64 v3, .int .i64 v4, .int .i64 v5] 2) = some (.int .i64 v2) := fun v0 v1 v2 v3 v4 v5 => by kernel_rfl
  have p3 : ∀ (v0 v1 v2 v3 v4 v5 : Int), pv Try.prog (part 3 #[.int .i64 v0, .int .i64 v1, .int .i64 v2, .int .i64 v3, .int .i64 v4, .int .i64 v5] 3) = some (.int .i64 v3) := fun v0 v1 v2 v3 v4 v5 => by kernel_rfl
  have p4 : ∀ (v0 v1 v2 v3 v4 v5 : Int), pv Try.prog (part 3 #[.int .i64 v0, .int .i64 v1, .int .i64 v2, .int .i64 v3, .int .i64 v4, .int .i64 v5] 4) = some (.int .i64 v4) := fun v0 v1 v2 v3 v4 v5 => by kernel_rfl
  have p5 : ∀ (v0 v1 v2 v3 v4 v5 : Int), pv Try.prog (part 3 #[.int .i64 v0, .int .i64 v1, .int .i64 v2, .int .i64 v3, .int .i64 v4, .int .i64 v5] 5) = some (.int .i64 v5) := fun v0 v1 v2 v3 v4 v5 => by kernel_rfl
  rw [show Op.equal 62 (.agg #[.int .i64 a0, .int .i64 a1, .int .i64 a2, .int .i64 a3, .int .i64 a4, .int .i64 a5]) (.agg #[.int .i64 b0, .int .i64 b1, .int .i64 b2, .int .i64 b3, .int .i64 b4, .int .i64 b5]) = Op.equalIn (9999 + 1) 62 (.agg #[.int .i64 a0, .int .i64 a1, .int .i64 a2, .int .i64 a3, .int .i64 a4, .int .i64 a5]) (.agg #[.int .i64 b0, .int .i64 b1, .int .i64 b2, .int .i64 b3, .int .i64 b4, .int .i64 b5]) from rfl, pv_eqS 9999 _ _ hu hs, loopS_pv]
  simp only [List.map_cons, List.map_nil, ne_eq, String.reduceEq, not_false_eq_true, if_true, pv_bind, p0, p1, p2, p3, p4, p5, Option.bind_some, allB]
  simp only [pv_eqI 9998, show (9999 : Nat) = 9998 + 1 from rfl, Option.bind_some, same6]
  cases (a0 == b0) <;> cases (a1 == b1) <;> cases (a2 == b2) <;> cases (a3 == b3) <;> cases (a4 == b4) <;> cases (a5 == b5) <;> rfl
theorem sem_neqCt {ρ : Operand → Value} {a0 a1 a2 a3 a4 a5 b0 b1 b2 b3 b4 b5 : Int} (hx : ρ x = (.agg #[.int .i64 a0, .int .i64 a1, .int .i64 a2, .int .i64 a3, .int .i64 a4, .int .i64 a5])) (hy : ρ y = (.agg #[.int .i64 b0, .int .i64 b1, .int .i64 b2, .int .i64 b3, .int .i64 b4, .int .i64 b5])) : pv Try.prog (execOp ρ ⟨d, .binOp .neq 62 x y tz, ty, pos, af, g⟩) = some (.value (.bool (! (same6 a0 a1 a2 a3 a4 a5 b0 b1 b2 b3 b4 b5)))) := by
  have e0 : pv Try.prog (eqGuard .neq 62 x y (.agg #[.int .i64 a0, .int .i64 a1, .int .i64 a2, .int .i64 a3, .int .i64 a4, .int .i64 a5]) (.agg #[.int .i64 b0, .int .i64 b1, .int .i64 b2, .int .i64 b3, .int .i64 b4, .int .i64 b5])) = some () := by kernel_rfl
  have e1 : binOp .neq 62 (.agg #[.int .i64 a0, .int .i64 a1, .int .i64 a2, .int .i64 a3, .int .i64 a4, .int .i64 a5]) (.agg #[.int .i64 b0, .int .i64 b1, .int .i64 b2, .int .i64 b3, .int .i64 b4, .int .i64 b5]) = (do pure (.bool (!(← Op.equal 62 (.agg #[.int .i64 a0, .int .i64 a1, .int .i64 a2, .int .i64 a3, .int .i64 a4, .int .i64 a5]) (.agg #[.int .i64 b0, .int .i64 b1, .int .i64 b2, .int .i64 b3, .int .i64 b4, .int .i64 b5]))))) := rfl
  simp only [execOp, hx, hy, e1, pv_bind, e0, Option.bind_some, pvEq_Ct]
  rfl
@[simp] theorem eff_neqCt : effPure Try.prog σ t ⟨d, .binOp .neq 62 x y tz, ty, pos, af, g⟩ = cmp6 (valOf σ x) (valOf σ y) (fun b => !b) t (effZ Try.prog σ t ⟨d, .binOp .neq 62 x y tz, ty, pos, af, g⟩) := by
  unfold cmp6
  split
  · next a0 a1 a2 a3 a4 a5 b0 b1 b2 b3 b4 b5 hx hy =>
    unfold effPure
    rw [if_pos (by simp [pureOp, Op.operands, hx, hy, -valOf])]
    rw [sem_neqCt (ρ := fun x => (valOf σ x).getD undef) (a0 := a0) (a1 := a1) (a2 := a2) (a3 := a3) (a4 := a4) (a5 := a5) (b0 := b0) (b1 := b1) (b2 := b2) (b3 := b3) (b4 := b4) (b5 := b5) (by show (valOf σ x).getD undef = _; rw [hx]; rfl) (by show (valOf σ y).getD undef = _; rw [hy]; rfl)]
    rfl
  · rfl
theorem pvEq_Ed (a0 a1 b0 b1 : Int) : pv Try.prog (Op.equal 57 (.agg #[.int .i64 a0, .int .i64 a1]) (.agg #[.int .i64 b0, .int .i64 b1])) = some (same2 a0 a1 b0 b1) := by
  have hu : pv Try.prog (underlying 57) = some (.struct #[⟨"A", 3, 0, false, "", "", 0⟩, ⟨"B", 3, 1, false, "", "", 8⟩]) := by kernel_rfl
  have hs : Try.prog.stoodInHeld 57 = false := by kernel_rfl
  have p0 : ∀ (v0 v1 : Int), pv Try.prog (part 3 #[.int .i64 v0, .int .i64 v1] 0) = some (.int .i64 v0) := fun v0 v1 => by kernel_rfl
  have p1 : ∀ (v0 v1 : Int), pv Try.prog (part 3 #[.int .i64 v0, .int .i64 v1] 1) = some (.int .i64 v1) := fun v0 v1 => by kernel_rfl
  rw [show Op.equal 57 (.agg #[.int .i64 a0, .int .i64 a1]) (.agg #[.int .i64 b0, .int .i64 b1]) = Op.equalIn (9999 + 1) 57 (.agg #[.int .i64 a0, .int .i64 a1]) (.agg #[.int .i64 b0, .int .i64 b1]) from rfl, pv_eqS 9999 _ _ hu hs, loopS_pv]
  simp only [List.map_cons, List.map_nil, ne_eq, String.reduceEq, not_false_eq_true, if_true, pv_bind, p0, p1, Option.bind_some, allB]
  simp only [pv_eqI 9998, show (9999 : Nat) = 9998 + 1 from rfl, Option.bind_some, same2]
  cases (a0 == b0) <;> cases (a1 == b1) <;> rfl
theorem sem_neqEd {ρ : Operand → Value} {a0 a1 b0 b1 : Int} (hx : ρ x = (.agg #[.int .i64 a0, .int .i64 a1])) (hy : ρ y = (.agg #[.int .i64 b0, .int .i64 b1])) : pv Try.prog (execOp ρ ⟨d, .binOp .neq 57 x y tz, ty, pos, af, g⟩) = some (.value (.bool (! (same2 a0 a1 b0 b1)))) := by
  have e0 : pv Try.prog (eqGuard .neq 57 x y (.agg #[.int .i64 a0, .int .i64 a1]) (.agg #[.int .i64 b0, .int .i64 b1])) = some () := by kernel_rfl
  have e1 : binOp .neq 57 (.agg #[.int .i64 a0, .int .i64 a1]) (.agg #[.int .i64 b0, .int .i64 b1]) = (do pure (.bool (!(← Op.equal 57 (.agg #[.int .i64 a0, .int .i64 a1]) (.agg #[.int .i64 b0, .int .i64 b1]))))) := rfl
  simp only [execOp, hx, hy, e1, pv_bind, e0, Option.bind_some, pvEq_Ed]
  rfl
@[simp] theorem eff_neqEd : effPure Try.prog σ t ⟨d, .binOp .neq 57 x y tz, ty, pos, af, g⟩ = cmp2 (valOf σ x) (valOf σ y) (fun b => !b) t (effZ Try.prog σ t ⟨d, .binOp .neq 57 x y tz, ty, pos, af, g⟩) := by
  unfold cmp2
  split
  · next a0 a1 b0 b1 hx hy =>
    unfold effPure
    rw [if_pos (by simp [pureOp, Op.operands, hx, hy, -valOf])]
    rw [sem_neqEd (ρ := fun x => (valOf σ x).getD undef) (a0 := a0) (a1 := a1) (b0 := b0) (b1 := b1) (by show (valOf σ x).getD undef = _; rw [hx]; rfl) (by show (valOf σ y).getD undef = _; rw [hy]; rfl)]
    rfl
  · rfl
end
end Go.Proofs.Ytnmocjhpbobahaa.L
