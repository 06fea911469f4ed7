/- RO: structs of numbers compared (printed by wip/gensame.py). U42: SameEdges; sameState. -/
import Derived.Test.YtnmocjhpbobahaaQ38
import Derived.Test.YtnmocjhpbobahaaQ14
import Derived.Test.YtnmocjhpbobahaaQ25
set_option linter.unusedVariables false
set_option linter.unusedSimpArgs false
set_option linter.unnecessarySimpa false
namespace Go.Proofs.Ytnmocjhpbobahaa.L
open Go Go.RowKit
set_option maxRecDepth 100000
def loopS (fs : Array Field) (f : Field → Sem Bool) : Sem Bool := do
  for x in fs do
    if x.name ≠ "_" then
      if !(← f x) then return false
  pure true
theorem loopS_pv (P : Program) (fs : Array Field) (f : Field → Sem Bool) : pv P (loopS fs f) = allB (fs.toList.map fun x => if x.name ≠ "_" then pv P (f x) else some true) := by
  unfold loopS
  rw [← Array.forIn_toList]
  generalize fs.toList = l
  induction l with
  | nil => rfl
  | cons x l ih =>
    rw [List.forIn_cons, List.map_cons, allB, pv_bind, pv_bind]
    by_cases hx : x.name ≠ "_"
    · rw [if_pos hx, if_pos hx, pv_bind]
      cases pv P (f x) with
      | none => rfl
      | some b =>
        cases b with
        | true =>
          rw [pv_bind] at ih
          simpa [pv_ite, pv_pure] using ih
        | false => rfl
    · rw [if_neg hx, if_neg hx]
      rw [pv_bind] at ih
      simpa [pv_ite, pv_pure] using ih
section
variable {σ : St Unit} {t : Nat} {x y : Operand} {d : Option Nat} {ty tz : TypeId} {pos : String} {af : Array Edge} {g : Option (Nat × Bool)}
theorem pv_eqS (k : Nat) (t : TypeId) (fs : Array Field) (hu : pv Try.prog (underlying t) = some (.struct fs)) (hs : Try.prog.stoodInHeld t = false) (xs ys : Array Value) : pv Try.prog (Op.equalIn (k + 1) t (.agg xs) (.agg ys)) = pv Try.prog (loopS fs fun f => do
    Op.equalIn k f.type (← part f.type xs f.offset) (← part f.type ys f.offset)) := by
  rw [Op.equalIn, pv_bind, hu]
  simp only [Option.bind_some]
  rw [pv_bind]
  show (some Try.prog).bind _ = _
  simp only [Option.bind_some, hs, Bool.false_eq_true, if_false, loopS, bind_assoc]

def same6 (a0 a1 a2 a3 a4 a5 b0 b1 b2 b3 b4 b5 : Int) : Bool := a0 == b0 && (a1 == b1 && (a2 == b2 && (a3 == b3 && (a4 == b4 && (a5 == b5)))))
def cmp6 (u v : Option Value) (f : Bool → Bool) (t : Nat) (z : Option (Eff Unit)) : Option (Eff Unit) := match u, v with
  | some (.agg ⟨[.int .i64 a0, .int .i64 a1, .int .i64 a2, .int .i64 a3, .int .i64 a4, .int .i64 a5]⟩), some (.agg ⟨[.int .i64 b0, .int .i64 b1, .int .i64 b2, .int .i64 b3, .int .i64 b4, .int .i64 b5]⟩) => some (effP t (bv (f (same6 a0 a1 a2 a3 a4 a5 b0 b1 b2 b3 b4 b5))))
  | _, _ => z
@[simp] theorem cmp6_i (a0 a1 a2 a3 a4 a5 b0 b1 b2 b3 b4 b5 : Int) (f : Bool → Bool) (t : Nat) (z : Option (Eff Unit)) : cmp6 (some (.agg #[.int .i64 a0, .int .i64 a1, .int .i64 a2, .int .i64 a3, .int .i64 a4, .int .i64 a5])) (some (.agg #[.int .i64 b0, .int .i64 b1, .int .i64 b2, .int .i64 b3, .int .i64 b4, .int .i64 b5])) f t z = some (effP t (bv (f (same6 a0 a1 a2 a3 a4 a5 b0 b1 b2 b3 b4 b5)))) := rfl
def same2 (a0 a1 b0 b1 : Int) : Bool := a0 == b0 && (a1 == b1)
theorem same2_iff {a0 a1 b0 b1 : Int} : same2 a0 a1 b0 b1 = true ↔ a0 = b0 ∧ a1 = b1 := by simp [same2]
def cmp2 (u v : Option Value) (f : Bool → Bool) (t : Nat) (z : Option (Eff Unit)) : Option (Eff Unit) := match u, v with
  | some (.agg ⟨[.int .i64 a0, .int .i64 a1]⟩), some (.agg ⟨[.int .i64 b0, .int .i64 b1]⟩) => some (effP t (bv (f (same2 a0 a1 b0 b1))))
  | _, _ => z
@[simp] theorem cmp2_i (a0 a1 b0 b1 : Int) (f : Bool → Bool) (t : Nat) (z : Option (Eff Unit)) : cmp2 (some (.agg #[.int .i64 a0, .int .i64 a1])) (some (.agg #[.int .i64 b0, .int .i64 b1])) f t z = some (effP t (bv (f (same2 a0 a1 b0 b1)))) := rfl
theorem pvEq_Cr (a0 a1 a2 a3 a4 a5 b0 b1 b2 b3 b4 b5 : Int) : pv Try.prog (Op.equal 59 (.agg #[.int .i64 a0, .int .i64 a1, .int .i64 a2, .int .i64 a3, .int .i64 a4, .int .i64 a5]) (.agg #[.int .i64 b0, .int .i64 b1, .int .i64 b2, .int .i64 b3, .int .i64 b4, .int .i64 b5])) = some (same6 a0 a1 a2 a3 a4 a5 b0 b1 b2 b3 b4 b5) := by
  have hu : pv Try.prog (underlying 59) = some (.struct #[⟨"A", 3, 0, false, "", "", 0⟩, ⟨"B", 3, 1, false, "", "", 8⟩, ⟨"C", 3, 2, false, "", "", 16⟩, ⟨"P", 3, 3, false, "", "", 24⟩, ⟨"Q", 3, 4, false, "", "", 32⟩, ⟨"R", 3, 5, false, "", "", 40⟩]) := by kernel_rfl
  have hs : Try.prog.stoodInHeld 59 = false := by kernel_rfl
  have p0 : ∀ (v0 v1 v2 v3 v4 v5 : Int), pv Try.prog (part 3 #[.int .i64 v0, .int .i64 v1, .int .i64 v2, .int .i64 v3, .int .i64 v4, .int .i64 v5] 0) = some (.int .i64 v0) := fun v0 v1 v2 v3 v4 v5 => by kernel_rfl
  have p1 : ∀ (v0 v1 v2 v3 v4 v5 : Int), pv Try.prog (part 3 #[.int .i64 v0, .int .i64 v1, .int .i64 v2, .int .i64 v3, .int .i64 v4, .int .i64 v5] 1) = some (.int .i64 v1) := fun v0 v1 v2 v3 v4 v5 => by kernel_rfl
  have p2 : ∀ (v0 v1 v2 v3 v4 v5 : Int), pv Try.prog (part 3 #[.int .i64 v0, .int .i64 v1, .int .i64 v2, .int .i64 v3, .int .i64 v4, .int .i64 v5] 2) = some (.int .i64 v2) := fun v0 v1 v2 v3 v4 v5 => by kernel_rfl
  have p3 : ∀ (v0 v1 v2 v3 v4 v5 : Int), pv Try.prog (part 3 #[.int .i64 v0, .int .i64 v1, .int .i64 v2, .int .i64 v3, .int .i64 v4, .int .i64 v5] 3) = some (.int .i64 v3) := fun v0 v1 v2 v3 v4 v5 => by kernel_rfl
  have p4 : ∀ (v0 v1 v2 v3 v4 v5 : Int), pv Try.prog (part 3 #[.int .i64 v0, .int .i64 v1, .int .i64 v2, .int .i64 v3, .int .i64 v4, .int .i64 v5] 4) = some (.int .i64 v4) := fun v0 v1 v2 v3 v4 v5 => by kernel_rfl
  have p5 : ∀ (v0 v1 v2 v3 v4 v5 : Int), pv Try.prog (part 3 #[.int .i64 v0, .int .i64 v1, .int .i64 v2, .int .i64 v3, .int .i64 v4, .int .i64 v5] 5) = some (.int .i64 v5) := fun v0 v1 v2 v3 v4 v5 => by kernel_rfl
  rw [show Op.equal 59 (.agg #[.int .i64 a0, .int .i64 a1, .int .i64 a2, .int .i64 a3, .int .i64 a4, .int .i64 a5]) (.agg #[.int .i64 b0, .int .i64 b1, .int .i64 b2, .int .i64 b3, .int .i64 b4, .int .i64 b5]) = Op.equalIn (9999 + 1) 59 (.agg #[.int .i64 a0, .int .i64 a1, .int .i64 a2, .int .i64 a3, .int .i64 a4, .int .i64 a5]) (.agg #[.int .i64 b0, .int .i64 b1, .int .i64 b2, .int .i64 b3, .int .i64 b4, .int .i64 b5]) from rfl, pv_eqS 9999 _ _ hu hs, loopS_pv]
  simp only [List.map_cons, List.map_nil, ne_eq, String.reduceEq, not_false_eq_true, if_true, pv_bind, p0, p1, p2, p3, p4, p5, Option.bind_some, allB]
  simp only [pv_eqI 9998, show (9999 : Nat) = 9998 + 1 from rfl, Option.bind_some, same6]
  cases (a0 == b0) <;> cases (a1 == b1) <;> cases (a2 == b2) <;> cases (a3 == b3) <;> cases (a4 == b4) <;> cases (a5 == b5) <;> rfl
theorem sem_eqlCr {ρ : Operand → Value} {a0 a1 a2 a3 a4 a5 b0 b1 b2 b3 b4 b5 : Int} (hx : ρ x = (.agg #[.int .i64 a0, .int .i64 a1, .int .i64 a2, .int .i64 a3, .int .i64 a4, .int .i64 a5])) (hy : ρ y = (.agg #[.int .i64 b0, .int .i64 b1, .int .i64 b2, .int .i64 b3, .int .i64 b4, .int .i64 b5])) : pv Try.prog (execOp ρ ⟨d, .binOp .eql 59 x y tz, ty, pos, af, g⟩) = some (.value (.bool ( (same6 a0 a1 a2 a3 a4 a5 b0 b1 b2 b3 b4 b5)))) := by
  have e0 : pv Try.prog (eqGuard .eql 59 x y (.agg #[.int .i64 a0, .int .i64 a1, .int .i64 a2, .int .i64 a3, .int .i64 a4, .int .i64 a5]) (.agg #[.int .i64 b0, .int .i64 b1, .int .i64 b2, .int .i64 b3, .int .i64 b4, .int .i64 b5])) = some () := by kernel_rfl
  have e1 : binOp .eql 59 (.agg #[.int .i64 a0, .int .i64 a1, .int .i64 a2, .int .i64 a3, .int .i64 a4, .int .i64 a5]) (.agg #[.int .i64 b0, .int .i64 b1, .int .i64 b2, .int .i64 b3, .int .i64 b4, .int .i64 b5]) = (do pure (.bool (← Op.equal 59 (.agg #[.int .i64 a0, .int .i64 a1, .int .i64 a2, .int .i64 a3, .int .i64 a4, .int .i64 a5]) (.agg #[.int .i64 b0, .int .i64 b1, .int .i64 b2, .int .i64 b3, .int .i64 b4, .int .i64 b5])))) := rfl
  simp only [execOp, hx, hy, e1, pv_bind, e0, Option.bind_some, pvEq_Cr]
  rfl
@[simp] theorem eff_eqlCr : effPure Try.prog σ t ⟨d, .binOp .eql 59 x y tz, ty, pos, af, g⟩ = cmp6 (valOf σ x) (valOf σ y) (fun b => b) t (effZ Try.prog σ t ⟨d, .binOp .eql 59 x y tz, ty, pos, af, g⟩) := by
  unfold cmp6
  split
  · next a0 a1 a2 a3 a4 a5 b0 b1 b2 b3 b4 b5 hx hy =>
    unfold effPure
    rw [if_pos (by simp [pureOp, Op.operands, hx, hy, -valOf])]
    rw [sem_eqlCr (ρ := fun x => (valOf σ x).getD undef) (a0 := a0) (a1 := a1) (a2 := a2) (a3 := a3) (a4 := a4) (a5 := a5) (b0 := b0) (b1 := b1) (b2 := b2) (b3 := b3) (b4 := b4) (b5 := b5) (by show (valOf σ x).getD undef = _; rw [hx]; rfl) (by show (valOf σ y).getD undef = _; rw [hy]; rfl)]
    rfl
  · rfl
theorem pvEq_Ct (a0 a1 a2 a3 a4 a5 b0 b1 b2 b3 b4 b5 : Int) : pv Try.prog (Op.equal 62 (.agg #[.int .i64 a0, .int .i64 a1, .int .i64 a2, .int .i64 a3, .int .i64 a4, .int .i64 a5]) (.agg #[.int .i64 b0, .int .i64 b1, .int .i64 b2, .int .i64 b3, .int .i64 b4, .int .i64 b5])) = some (same6 a0 a1 a2 a3 a4 a5 b0 b1 b2 b3 b4 b5) := by
  have hu : pv Try.prog (underlying 62) = some (.struct #[⟨"A", 3, 0, false, "", "", 0⟩, ⟨"B", 3, 1, false, "", "", 8⟩, ⟨"C", 3, 2, false, "", "", 16⟩, ⟨"P", 3, 3, false, "", "", 24⟩, ⟨"Q", 3, 4, false, "", "", 32⟩, ⟨"R", 3, 5, false, "", "", 40⟩]) := by kernel_rfl
  have hs : Try.prog.stoodInHeld 62 = false := by kernel_rfl
  have p0 : ∀ (v0 v1 v2 v3 v4 v5 : Int), pv Try.prog (part 3 #[.int .i64 v0, .int .i64 v1, .int .i64 v2, .int .i64 v3, .int .i64 v4, .int .i64 v5] 0) = some (.int .i64 v0) := fun v0 v1 v2 v3 v4 v5 => by kernel_rfl
  have p1 : ∀ (v0 v1 v2 v3 v4 v5 : Int), pv Try.prog (part 3 #[.int .i64 v0, .int .i64 v1, .int .i64 v2, .int .i64 v3, .int .i64 v4, .int .i64 v5] 1) = some (.int .i64 v1) := fun v0 v1 v2 v3 v4 v5 => by kernel_rfl
  have p2 : ∀ (v0 v1 v2 v3 v4 v5 : Int), pv Try.prog (part 3 #[.int .i64 v0, .int .i64 v1, .int .i64 v2, .int .i64 v3, .int .i64 v4, .int .i64 v5] 2) = some (.int .i64 v2) := fun v0 v1 v2 v3 v4 v5 => by kernel_rfl
  have p3 : ∀ (v0 v1 v2 v3 v4 v5 : Int), pv Try.prog (part 3 #[.int .i64 v0, .int .i64 v1, .int .i64 v2, .int .i64 v3, .int .i64 v4, .int .i64 v5] 3) = some (.int .i64 v3) := fun v0 v1 v2 v3 v4 v5 => by kernel_rfl
  have p4 : ∀ (v0 v1 v2 v3 v4 v5 : Int), pv Try.prog (part 3 #[.int .i64 v0, .int .i64 v1, .int .i64 v2, .int .i64 v3, .int .i64 v4, .int .i64 v5] 4) = some (.int .i64 v4) := fun v0 v1 v2 v3 v4 v5 => by kernel_rfl
  have p5 : ∀ (v0 v1 v2 v3 v4 v5 : Int), pv Try.prog (part 3 #[.int .i64 v0, .int .i64 v1, .int .i64 v2, .int .i64 v3, .int .i64 v4, .int .i64 v5] 5) = some (.int .i64 v5) := fun v0 v1 v2 v3 v4 v5 => by kernel_rfl
  rw [show Op.equal 62 (.agg #[.int .i64 a0, .int .i64 a1, .int .i64 a2, .int .i64 a3, .int .i64 a4, .int .i64 a5]) (.agg #[.int .i64 b0, .int .i64 b1, .int .i64 b2, .int .i64 b3, .int .i64 b4, .int .i64 b5]) = Op.equalIn (9999 + 1) 62 (.agg #[.int .i64 a0, .int .i64 a1, .int .i64 a2, .int .i64 a3, .int .i64 a4, .int .i64 a5]) (.agg #[.int .i64 b0, .int .i64 b1, .int .i64 b2, .int .i64 b3, .int .i64 b4, .int .i64 b5]) from rfl, pv_eqS 9999 _ _ hu hs, loopS_pv]
  simp only [List.map_cons, List.map_nil, ne_eq, String.reduceEq, not_false_eq_true, if_true, pv_bind, p0, p1, p2, p3, p4, p5, Option.bind_some, allB]
  simp only [pv_eqI 9998, show (9999 : Nat) = 9998 + 1 from rfl, Option.bind_some, same6]
  cases (a0 == b0) <;> cases (a1 == b1) <;> cases (a2 == b2) <;> cases (a3 == b3) <;> cases (a4 == b4) <;> cases (a5 == b5) <;> rfl
theorem sem_neqCt {ρ : Operand → Value} {a0 a1 a2 a3 a4 a5 b0 b1 b2 b3 b4 b5 : Int} (hx : ρ x = (.agg #[.int .i64 a0, .int .i64 a1, .int .i64 a2, .int .i64 a3, .int .i64 a4, .int .i64 a5])) (hy : ρ y = (.agg #[.int .i64 b0, .int .i64 b1, .int .i64 b2, .int .i64 b3, .int .i64 b4, .int .i64 b5])) : pv Try.prog (execOp ρ ⟨d, .binOp .neq 62 x y tz, ty, pos, af, g⟩) = some (.value (.bool (! (same6 a0 a1 a2 a3 a4 a5 b0 b1 b2 b3 b4 b5)))) := by
  have e0 : pv Try.prog (eqGuard .neq 62 x y (.agg #[.int .i64 a0, .int .i64 a1, .int .i64 a2, .int .i64 a3, .int .i64 a4, .int .i64 a5]) (.agg #[.int .i64 b0, .int .i64 b1, .int .i64 b2, .int .i64 b3, .int .i64 b4, .int .i64 b5])) = some () := by kernel_rfl
  have e1 : binOp .neq 62 (.agg #[.int .i64 a0, .int .i64 a1, .int .i64 a2, .int .i64 a3, .int .i64 a4, .int .i64 a5]) (.agg #[.int .i64 b0, .int .i64 b1, .int .i64 b2, .int .i64 b3, .int .i64 b4, .int .i64 b5]) = (do pure (.bool (!(← Op.equal 62 (.agg #[.int .i64 a0, .int .i64 a1, .int .i64 a2, .int .i64 a3, .int .i64 a4, .int .i64 a5]) (.agg #[.int .i64 b0, .int .i64 b1, .int .i64 b2, .int .i64 b3, .int .i64 b4, .int .i64 b5]))))) := rfl
  simp only [execOp, hx, hy, e1, pv_bind, e0, Option.bind_some, pvEq_Ct]
  rfl
@[simp] theorem eff_neqCt : effPure Try.prog σ t ⟨d, .binOp .neq 62 x y tz, ty, pos, af, g⟩ = cmp6 (valOf σ x) (valOf σ y) (fun b => !b) t (effZ Try.prog σ t ⟨d, .binOp .neq 62 x y tz, ty, pos, af, g⟩) := by
  unfold cmp6
  split
  · next a0 a1 a2 a3 a4 a5 b0 b1 b2 b3 b4 b5 hx hy =>
    unfold effPure
    rw [if_pos (by simp [pureOp, Op.operands, hx, hy, -valOf])]
    rw [sem_neqCt (ρ := fun x => (valOf σ x).getD undef) (a0 := a0) (a1 := a1) (a2 := a2) (a3 := a3) (a4 := a4) (a5 := a5) (b0 := b0) (b1 := b1) (b2 := b2) (b3 := b3) (b4 := b4) (b5 := b5) (by show (valOf σ x).getD undef = _; rw [hx]; rfl) (by show (valOf σ y).getD undef = _; rw [hy]; rfl)]
    rfl
  · rfl
theorem pvEq_Ed (a0 a1 b0 b1 : Int) : pv Try.prog (Op.equal 57 (.agg #[.int .i64 a0, .int .i64 a1]) (.agg #[.int .i64 b0, .int .i64 b1])) = some (same2 a0 a1 b0 b1) := by
  have hu : pv Try.prog (underlying 57) = some (.struct #[⟨"A", 3, 0, false, "", "", 0⟩, ⟨"B", 3, 1, false, "", "", 8⟩]) := by kernel_rfl
  have hs : Try.prog.stoodInHeld 57 = false := by kernel_rfl
  have p0 : ∀ (v0 v1 : Int), pv Try.prog (part 3 #[.int .i64 v0, .int .i64 v1] 0) = some (.int .i64 v0) := fun v0 v1 => by kernel_rfl
  have p1 : ∀ (v0 v1 : Int), pv Try.prog (part 3 #[.int .i64 v0, .int .i64 v1] 1) = some (.int .i64 v1) := fun v0 v1 => by kernel_rfl
  rw [show Op.equal 57 (.agg #[.int .i64 a0, .int .i64 a1]) (.agg #[.int .i64 b0, .int .i64 b1]) = Op.equalIn (9999 + 1) 57 (.agg #[.int .i64 a0, .int .i64 a1]) (.agg #[.int .i64 b0, .int .i64 b1]) from rfl, pv_eqS 9999 _ _ hu hs, loopS_pv]
  simp only [List.map_cons, List.map_nil, ne_eq, String.reduceEq, not_false_eq_true, if_true, pv_bind, p0, p1, Option.bind_some, allB]
  simp only [pv_eqI 9998, show (9999 : Nat) = 9998 + 1 from rfl, Option.bind_some, same2]
  cases (a0 == b0) <;> cases (a1 == b1) <;> rfl
theorem sem_neqEd {ρ : Operand → Value} {a0 a1 b0 b1 : Int} (hx : ρ x = (.agg #[.int .i64 a0, .int .i64 a1])) (hy : ρ y = (.agg #[.int .i64 b0, .int .i64 b1])) : pv Try.prog (execOp ρ ⟨d, .binOp .neq 57 x y tz, ty, pos, af, g⟩) = some (.value (.bool (! (same2 a0 a1 b0 b1)))) := by
  have e0 : pv Try.prog (eqGuard .neq 57 x y (.agg #[.int .i64 a0, .int .i64 a1]) (.agg #[.int .i64 b0, .int .i64 b1])) = some () := by kernel_rfl
  have e1 : binOp .neq 57 (.agg #[.int .i64 a0, .int .i64 a1]) (.agg #[.int .i64 b0, .int .i64 b1]) = (do pure (.bool (!(← Op.equal 57 (.agg #[.int .i64 a0, .int .i64 a1]) (.agg #[.int .i64 b0, .int .i64 b1]))))) := rfl
  simp only [execOp, hx, hy, e1, pv_bind, e0, Option.bind_some, pvEq_Ed]
  rfl
@[simp] theorem eff_neqEd : effPure Try.prog σ t ⟨d, .binOp .neq 57 x y tz, ty, pos, af, g⟩ = cmp2 (valOf σ x) (valOf σ y) (fun b => !b) t (effZ Try.prog σ t ⟨d, .binOp .neq 57 x y tz, ty, pos, af, g⟩) := by
  unfold cmp2
  split
  · next a0 a1 b0 b1 hx hy =>
    unfold effPure
    rw [if_pos (by simp [pureOp, Op.operands, hx, hy, -valOf])]
    rw [sem_neqEd (ρ := fun x => (valOf σ x).getD undef) (a0 := a0) (a1 := a1) (b0 := b0) (b1 := b1) (by show (valOf σ x).getD undef = _; rw [hx]; rfl) (by show (valOf σ y).getD undef = _; rw [hy]; rfl)]
    rfl
  · rfl
end
end Go.Proofs.Ytnmocjhpbobahaa.L
namespace Go.Proofs.Ytnmocjhpbobahaa.L
open Go Go.RowKit
set_option maxRecDepth 100000
set_option maxHeartbeats 4000000
theorem same2_t {a b a' b' : Int} (h : same2 a b a' b' = true) : same2 a b a' b' = true := h
theorem same2_f {a b a' b' : Int} (h : same2 a b a' b' = false) : same2 a b a' b' = false := h
attribute [local simp] same2_t same2_f
abbrev edg (l : List (Int × Int)) : SV Unit := ⟨.one, [.c (.sl false 2 () (EL l))]⟩
theorem wSameE (l m : List (Int × Int)) (hl : l.length ≤ 1000000) (hm : m.length ≤ 1000000) : ∃ c, Try.f42.body = some c ∧ RP (regOf Try.prog env0 26 u42) c (argsSt 0 [edg l, edg m]) (endsAs Try.prog Try.f42 (bv (decide (l = m)))) := by
  refine ⟨_, rfl, ?_⟩
  generalize hQ : endsAs Try.prog Try.f42 (bv (decide (l = m))) = Q
  simp only [argsSt]
  by_cases hlm : l.length = m.length
  case neg =>
    rw [decide_eq_false (fun e => hlm (by rw [e]))] at hQ
    refine go ?_
    show Q .ret _; refine fin_ret hQ rfl ?_
    rfl
  refine go ?_
  apply rp_loop (fun k σ => ∃ i : Nat, i ≤ l.length ∧ k = l.length - i ∧ (∀ j, j < i → ent l j = ent m j) ∧ σ = [(0, edg l), (1, edg m), (5, iv i)]) l.length
  · exact ⟨0, by omega, by omega, fun j hj => absurd hj (Nat.not_lt_zero _), rfl⟩
  rintro k σ ⟨i, hi, rfl, hno, rfl⟩
  by_cases hil : i < l.length
  · have him : i < m.length := by omega
    cases hs : same2 (ent l i).1 (ent l i).2 (ent m i).1 (ent m i).2 with
    | true =>
      have e : ent l i = ent m i := Prod.ext (same2_iff.1 hs).1 (same2_iff.1 hs).2
      refine go ?_
      exact nxt (l.length - (i + 1)) (by omega) ⟨i + 1, by omega, rfl, fun j hj => by
        rcases Nat.lt_succ_iff_lt_or_eq.1 hj with h | rfl
        · exact hno j h
        · exact e, rfl⟩
    | false =>
      rw [decide_eq_false (fun e => by rw [e, same2_iff.2 ⟨rfl, rfl⟩] at hs; cases hs)] at hQ
      refine go ?_
      show Q .ret _; refine fin_ret hQ rfl ?_
      rfl
  have he : l = m := by
    refine List.ext_getElem hlm fun j h1 h2 => ?_
    rw [← ent_eq h1, ← ent_eq h2]
    exact hno j (by omega)
  rw [decide_eq_true he] at hQ
  refine go ?_
  show Q .ret _; refine fin_ret hQ rfl ?_
  rfl
def asEdg : SV Unit → Option (List (Int × Int))
  | ⟨.one, [.c (.sl false 2 () row)]⟩ => toEdges row
  | _ => none
@[simp] theorem asEdg_e (l : List (Int × Int)) : asEdg (edg l) = some l := toEdges_EL l
theorem asEdg_eq {v : SV Unit} {l : List (Int × Int)} (h : asEdg v = some l) : v = edg l := by
  unfold asEdg at h
  split at h
  · rw [toEdges_eq h]
  · cases h
def specSameE : Spec := spec2 asEdg asEdg fun l m => when (l.length ≤ 1000000 ∧ m.length ≤ 1000000) (bv (decide (l = m)))
theorem okSameE : SpecOk 42 specSameE := by
  intro us r h
  obtain ⟨x, y, l, m, rfl, hl, hm, h⟩ := spec2_eq h
  obtain ⟨⟨h1, h2⟩, rfl⟩ := when_eq h
  rw [asEdg_eq hl, asEdg_eq hm]
  exact goodBy2 env0_ok Try.func42 rfl (Nat.le_of_ble_eq_true rfl) (by decide) (wSameE l m h1 h2)
@[simp] theorem sSameE (l m : List (Int × Int)) (h : l.length ≤ 1000000 ∧ m.length ≤ 1000000) : specSameE [⟨.one, [.c (.sl false 2 () (EL l))]⟩, ⟨.one, [.c (.sl false 2 () (EL m))]⟩] = some (bv (decide (l = m))) := by
  unfold specSameE; rw [spec2_v (asEdg_e l) (asEdg_e m)]; exact when_pos _ h
@[simp] theorem callSameE {E : Env} {σ : St Unit} {t : Nat} {l : List Operand} : effCall Try.prog E ΩU σ t 42 l = callO E 42 t (argsOf Try.prog ΩU σ [22, 22] l) := eff_call Try.func42 Try.params42
/-! ### sameState: of a state and itself -/
noncomputable abbrev ESameS : Env := ext (ext env0 41 spec19) 42 specSameE
abbrev stF (a : List Int) (e : List (Int × Int)) (m : List Int) : SV Unit := ⟨.agg, [.c (.sl false 1 () (IL a)), .c (.sl false 2 () (EL e)), .c (.sl false 1 () (IL m))]⟩
theorem wSameS (a : List Int) (e : List (Int × Int)) (m : List Int) (h1 : a.length ≤ 1000000) (h2 : e.length ≤ 1000000) (h3 : m.length ≤ 1000000) : ∃ c, Try.f18.body = some c ∧ RP (regOf Try.prog ESameS 24 u18) c (argsSt 0 [stF a e m, stF a e m]) (endsAs Try.prog Try.f18 (bv true)) := by
  refine ⟨_, rfl, ?_⟩
  generalize hQ : endsAs Try.prog Try.f18 (bv true) = Q
  simp only [argsSt]
  have e1 : a = a := rfl
  have e2 : e = e := rfl
  have e3 : m = m := rfl
  have k1 : a.length ≤ 2 ^ 59 := by omega
  have k3 : m.length ≤ 2 ^ 59 := by omega
  refine go ?_
  show Q .ret _; refine fin_ret hQ rfl ?_
  rfl
def asStF : SV Unit → Option (List Int × List (Int × Int) × List Int)
  | ⟨.agg, [.c (.sl false 1 () a), .c (.sl false 2 () b), .c (.sl false 1 () c)]⟩ => match toInts a, toEdges b, toInts c with
    | some a, some b, some c => some (a, b, c)
    | _, _, _ => none
  | _ => none
@[simp] theorem asStF_st (a : List Int) (e : List (Int × Int)) (m : List Int) : asStF (stF a e m) = some (a, e, m) := by simp [asStF]
theorem asStF_eq {v : SV Unit} {x : List Int × List (Int × Int) × List Int} (h : asStF v = some x) : v = stF x.1 x.2.1 x.2.2 := by
  unfold asStF at h
  split at h
  · split at h
    · next a b c h1 h2 h3 =>
      simp only [Option.some.injEq] at h
      subst h
      rw [toInts_eq h1, toEdges_eq h2, toInts_eq h3]
    · cases h
  · cases h
noncomputable def specSameS : Spec := spec2 asStF asStF fun x y => whenC (x = y ∧ x.1.length ≤ 1000000 ∧ x.2.1.length ≤ 1000000 ∧ x.2.2.length ≤ 1000000) (bv true)
theorem okSameS : SpecOk 18 specSameS := by
  intro us r h
  obtain ⟨x, y, l, m, rfl, hl, hm, h⟩ := spec2_eq h
  obtain ⟨⟨h1, h2, h3, h4⟩, rfl⟩ := whenC_eq h
  rw [asStF_eq hl, asStF_eq hm, ← h1]
  exact goodBy2 (ext_ok (ext_ok env0_ok ok19) okSameE) Try.func18 rfl (Nat.le_of_ble_eq_true rfl) (by decide) (wSameS l.1 l.2.1 l.2.2 h2 h3 h4)
@[simp] theorem sSameS (a : List Int) (e : List (Int × Int)) (m : List Int) (h : a.length ≤ 1000000 ∧ e.length ≤ 1000000 ∧ m.length ≤ 1000000) : specSameS [stF a e m, stF a e m] = some (bv true) := by
  unfold specSameS; rw [spec2_v (asStF_st a e m) (asStF_st a e m)]; exact whenC_pos _ ⟨rfl, h⟩
@[simp] theorem callSameS {E : Env} {σ : St Unit} {t : Nat} {l : List Operand} : effCall Try.prog E ΩU σ t 18 l = callO E 18 t (argsOf Try.prog ΩU σ [41, 45] l) := eff_call Try.func18 Try.params18
end Go.Proofs.Ytnmocjhpbobahaa.L
