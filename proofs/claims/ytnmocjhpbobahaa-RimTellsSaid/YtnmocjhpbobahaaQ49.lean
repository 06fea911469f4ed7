/- RN: arrays of three numbers, and cuts, compared. RO: structs of numbers compared (printed by wip/gensame.py). U25: SameCuts; Same. -/
import Derived.Test.YtnmocjhpbobahaaQ14
import Derived.Laws.Sem
set_option linter.unusedVariables false
set_option linter.unusedSimpArgs false
set_option linter.unnecessarySimpa false
namespace Go.Proofs.Ytnmocjhpbobahaa.L
open Go Go.RowKit
set_option maxRecDepth 100000
theorem pv_bind {α β : Type} (P : Program) (s : Sem α) (f : α → Sem β) : pv P (s >>= f) = (pv P s).bind fun b => pv P (f b) := by
  show pv P (Sem.bind s f) = _
  induction s with
  | pure b => rfl
  | program k ih => exact ih P
  | mark m k ih => exact ih
  | _ => rfl
theorem pv_pure {α : Type} (P : Program) (a : α) : pv P (pure a : Sem α) = some a := rfl
theorem pv_ite {α : Type} (P : Program) (c : Prop) [Decidable c] (s s' : Sem α) : pv P (if c then s else s') = if c then pv P s else pv P s' := by split <;> rfl
def loopB (n : Nat) (f : Nat → Sem Bool) : Sem Bool := do
  for i in [0:n] do
    if !(← f i) then return false
  pure true
def allB : List (Option Bool) → Option Bool
  | [] => some true
  | x :: l => x.bind fun b => if b = true then allB l else some false
theorem loopB_pv (P : Program) (n : Nat) (f : Nat → Sem Bool) : pv P (loopB n f) = allB ((List.range' 0 n).map fun i => pv P (f i)) := by
  unfold loopB
  simp only [Std.Legacy.Range.forIn_eq_forIn_range']
  have e : [:n].size = n := by simp [Std.Legacy.Range.size]
  rw [e]
  generalize List.range' 0 n = l
  induction l with
  | nil => rfl
  | cons i l ih =>
    rw [List.forIn_cons, List.map_cons, allB, pv_bind, pv_bind, pv_bind]
    cases pv P (f i) with
    | none => rfl
    | some b =>
      cases b with
      | true =>
        rw [pv_bind] at ih
        simpa [pv_ite, pv_pure] using ih
      | false => rfl
section
variable {σ : St Unit} {t : Nat} {x y : Operand} {d : Option Nat} {ty tz : TypeId} {pos : String} {af : Array Edge} {g : Option (Nat × Bool)}
theorem pv_eqI (k : Nat) (a a' : Int) : pv Try.prog (Op.equalIn (k + 1) 3 (.int .i64 a) (.int .i64 a')) = some (a == a') := by kernel_rfl
theorem pv_eq3 (k : Nat) (a b c a' b' c' : Int) : pv Try.prog (Op.equalIn (k + 2) 82 (.agg #[.int .i64 a, .int .i64 b, .int .i64 c]) (.agg #[.int .i64 a', .int .i64 b', .int .i64 c'])) = pv Try.prog (loopB 3 fun i => do
    Op.equalIn (k + 1) 3 (← part 3 #[.int .i64 a, .int .i64 b, .int .i64 c] (i * 1)) (← part 3 #[.int .i64 a', .int .i64 b', .int .i64 c'] (i * 1))) := by
  have u : pv Try.prog (underlying 82) = some (.array 3 3) := by kernel_rfl
  have z : pv Try.prog (sizeOf 3) = some 1 := by kernel_rfl
  show pv Try.prog (Op.equalIn (k + 1 + 1) _ _ _) = _
  rw [Op.equalIn, pv_bind, u]
  simp only [Option.bind_some]
  rw [pv_bind, z]
  simp only [Option.bind_some, loopB, bind_assoc]
theorem sem_neq3 {ρ : Operand → Value} {a b c a' b' c' : Int} (hx : ρ x = .agg #[.int .i64 a, .int .i64 b, .int .i64 c]) (hy : ρ y = .agg #[.int .i64 a', .int .i64 b', .int .i64 c']) : pv Try.prog (execOp ρ ⟨d, .binOp .neq 82 x y tz, ty, pos, af, g⟩) = some (.value (.bool (!(a == a' && (b == b' && c == c'))))) := by
  have e0 : pv Try.prog (eqGuard .neq 82 x y (.agg #[.int .i64 a, .int .i64 b, .int .i64 c]) (.agg #[.int .i64 a', .int .i64 b', .int .i64 c'])) = some () := by kernel_rfl
  have e1 : binOp .neq 82 (.agg #[.int .i64 a, .int .i64 b, .int .i64 c]) (.agg #[.int .i64 a', .int .i64 b', .int .i64 c']) = (do pure (.bool (!(← Op.equal 82 (.agg #[.int .i64 a, .int .i64 b, .int .i64 c]) (.agg #[.int .i64 a', .int .i64 b', .int .i64 c']))))) := rfl
  have e2 := pv_eq3 9998 a b c a' b' c'
  have p0 : ∀ (u v w : Int), pv Try.prog (part 3 #[.int .i64 u, .int .i64 v, .int .i64 w] (0 * 1)) = some (.int .i64 u) := fun u v w => by kernel_rfl
  have p1 : ∀ (u v w : Int), pv Try.prog (part 3 #[.int .i64 u, .int .i64 v, .int .i64 w] (1 * 1)) = some (.int .i64 v) := fun u v w => by kernel_rfl
  have p2 : ∀ (u v w : Int), pv Try.prog (part 3 #[.int .i64 u, .int .i64 v, .int .i64 w] (2 * 1)) = some (.int .i64 w) := fun u v w => by kernel_rfl
  simp only [execOp, hx, hy, e1, pv_bind, e0, Option.bind_some]
  rw [show Op.equal 82 (.agg #[.int .i64 a, .int .i64 b, .int .i64 c]) (.agg #[.int .i64 a', .int .i64 b', .int .i64 c']) = Op.equalIn (9998 + 2) 82 (.agg #[.int .i64 a, .int .i64 b, .int .i64 c]) (.agg #[.int .i64 a', .int .i64 b', .int .i64 c']) from rfl, e2, loopB_pv]
  simp only [List.range', List.map_cons, List.map_nil, pv_bind, p0, p1, p2, Nat.zero_add, Nat.reduceAdd, Option.bind_some, pv_eqI, allB, pv_pure]
  cases (a == a') <;> cases (b == b') <;> cases (c == c') <;> rfl
def same3 (a b c a' b' c' : Int) : Bool := a == a' && (b == b' && c == c')
def neq3 (u v : Option Value) (t : Nat) (z : Option (Eff Unit)) : Option (Eff Unit) := match u, v with
  | some (.agg ⟨[.int .i64 a, .int .i64 b, .int .i64 c]⟩), some (.agg ⟨[.int .i64 a', .int .i64 b', .int .i64 c']⟩) => some (effP t (bv (!(same3 a b c a' b' c'))))
  | _, _ => z
@[simp] theorem neq3_i (a b c a' b' c' : Int) (t : Nat) (z : Option (Eff Unit)) : neq3 (some (.agg #[.int .i64 a, .int .i64 b, .int .i64 c])) (some (.agg #[.int .i64 a', .int .i64 b', .int .i64 c'])) t z = some (effP t (bv (!(same3 a b c a' b' c')))) := rfl
@[simp] theorem eff_neq3 : effPure Try.prog σ t ⟨d, .binOp .neq 82 x y tz, ty, pos, af, g⟩ = neq3 (valOf σ x) (valOf σ y) t (effZ Try.prog σ t ⟨d, .binOp .neq 82 x y tz, ty, pos, af, g⟩) := by
  unfold neq3
  split
  · next a b c a' b' c' hx hy =>
    unfold effPure
    rw [if_pos (by simp [pureOp, Op.operands, hx, hy, -valOf])]
    rw [sem_neq3 (ρ := fun x => (valOf σ x).getD undef) (a := a) (b := b) (c := c) (a' := a') (b' := b') (c' := c') (by show (valOf σ x).getD undef = _; rw [hx]; rfl) (by show (valOf σ y).getD undef = _; rw [hy]; rfl)]
    rfl
  · rfl
end
end Go.Proofs.Ytnmocjhpbobahaa.L
namespace Go.Proofs.Ytnmocjhpbobahaa.L
open Go Go.RowKit
set_option maxRecDepth 100000
def loopS (fs : Array Field) (f : Field → Sem Bool) : Sem Bool := do
  for x in fs do
    if x.name ≠ "_" then
      if !(← f x) then return false
  pure true
theorem loopS_pv (P : Program) (fs : Array Field) (f : Field → Sem Bool) : pv P (loopS fs f) = allB (fs.toList.map fun x => if x.name ≠ "_" then pv P (f x) else some true) := by
  unfold loopS
  rw [← Array.forIn_toList]
  generalize fs.toList = l
  induction l with
  | nil => rfl
  | cons x l ih =>
    rw [List.forIn_cons, List.map_cons, allB, pv_bind, pv_bind]
    by_cases hx : x.name ≠ "_"
    · rw [if_pos hx, if_pos hx, pv_bind]
      cases pv P (f x) with
      | none => rfl
      | some b =>
        cases b with
        | true =>
          rw [pv_bind] at ih
          simpa [pv_ite, pv_pure] using ih
        | false => rfl
    · rw [if_neg hx, if_neg hx]
      rw [pv_bind] at ih
      simpa [pv_ite, pv_pure] using ih
section
variable {σ : St Unit} {t : Nat} {x y : Operand} {d : Option Nat} {ty tz : TypeId} {pos : String} {af : Array Edge} {g : Option (Nat × Bool)}
theorem pv_eqS (k : Nat) (t : TypeId) (fs : Array Field) (hu : pv Try.prog (underlying t) = some (.struct fs)) (hs : Try.prog.stoodInHeld t = false) (xs ys : Array Value) : pv Try.prog (Op.equalIn (k + 1) t (.agg xs) (.agg ys)) = pv Try.prog (loopS fs fun f => do
    Op.equalIn k f.type (← part f.type xs f.offset) (← part f.type ys f.offset)) := by
  rw [Op.equalIn, pv_bind, hu]
  simp only [Option.bind_some]
  rw [pv_bind]
  show (some Try.prog).bind _ = _
  simp only [Option.bind_some, hs, Bool.false_eq_true, if_false, loopS, bind_assoc]

def same6 (a0 a1 a2 a3 a4 a5 b0 b1 b2 b3 b4 b5 : Int) : Bool := a0 == b0 && (a1 == b1 && (a2 == b2 && (a3 == b3 && (a4 == b4 && (a5 == b5)))))
theorem same6_iff {a0 a1 a2 a3 a4 a5 b0 b1 b2 b3 b4 b5 : Int} : same6 a0 a1 a2 a3 a4 a5 b0 b1 b2 b3 b4 b5 = true ↔ a0 = b0 ∧ a1 = b1 ∧ a2 = b2 ∧ a3 = b3 ∧ a4 = b4 ∧ a5 = b5 := by simp [same6]
def cmp6 (u v : Option Value) (f : Bool → Bool) (t : Nat) (z : Option (Eff Unit)) : Option (Eff Unit) := match u, v with
  | some (.agg ⟨[.int .i64 a0, .int .i64 a1, .int .i64 a2, .int .i64 a3, .int .i64 a4, .int .i64 a5]⟩), some (.agg ⟨[.int .i64 b0, .int .i64 b1, .int .i64 b2, .int .i64 b3, .int .i64 b4, .int .i64 b5]⟩) => some (effP t (bv (f (same6 a0 a1 a2 a3 a4 a5 b0 b1 b2 b3 b4 b5))))
  | _, _ => z
@[simp] theorem cmp6_i (a0 a1 a2 a3 a4 a5 b0 b1 b2 b3 b4 b5 : Int) (f : Bool → Bool) (t : Nat) (z : Option (Eff Unit)) : cmp6 (some (.agg #[.int .i64 a0, .int .i64 a1, .int .i64 a2, .int .i64 a3, .int .i64 a4, .int .i64 a5])) (some (.agg #[.int .i64 b0, .int .i64 b1, .int .i64 b2, .int .i64 b3, .int .i64 b4, .int .i64 b5])) f t z = some (effP t (bv (f (same6 a0 a1 a2 a3 a4 a5 b0 b1 b2 b3 b4 b5)))) := rfl
def same2 (a0 a1 b0 b1 : Int) : Bool := a0 == b0 && (a1 == b1)
def cmp2 (u v : Option Value) (f : Bool → Bool) (t : Nat) (z : Option (Eff Unit)) : Option (Eff Unit) := match u, v with
  | some (.agg ⟨[.int .i64 a0, .int .i64 a1]⟩), some (.agg ⟨[.int .i64 b0, .int .i64 b1]⟩) => some (effP t (bv (f (same2 a0 a1 b0 b1))))
  | _, _ => z
@[simp] theorem cmp2_i (a0 a1 b0 b1 : Int) (f : Bool → Bool) (t : Nat) (z : Option (Eff Unit)) : cmp2 (some (.agg #[.int .i64 a0, .int .i64 a1])) (some (.agg #[.int .i64 b0, .int .i64 b1])) f t z = some (effP t (bv (f (same2 a0 a1 b0 b1)))) := rfl
theorem pvEq_Cr (a0 a1 a2 a3 a4 a5 b0 b1 b2 b3 b4 b5 : Int) : pv Try.prog (Op.equal 59 (.agg #[.int .i64 a0, .int .i64 a1, .int .i64 a2, .int .i64 a3, .int .i64 a4, .int .i64 a5]) (.agg #[.int .i64 b0, .int .i64 b1, .int .i64 b2, .int .i64 b3, .int .i64 b4, .int .i64 b5])) = some (same6 a0 a1 a2 a3 a4 a5 b0 b1 b2 b3 b4 b5) := by
  have hu : pv Try.prog (underlying 59) = some (.struct #[⟨"A", 3, 0, false, "", "", 0⟩, ⟨"B", 3, 1, false, "", "", 8⟩, ⟨"C", 3, 2, false, "", "", 16⟩, ⟨"P", 3, 3, false, "", "", 24⟩, ⟨"Q", 3, 4, false, "", "", 32⟩, ⟨"R", 3, 5, false, "", "", 40⟩]) := by kernel_rfl
  have hs : Try.prog.stoodInHeld 59 = false := by kernel_rfl
  have p0 : ∀ (v0 v1 v2 v3 v4 v5 : Int), pv Try.prog (part 3 #[.int .i64 v0, .int .i64 v1, .int .i64 v2, .int .i64 v3, .int .i64 v4, .int .i64 v5] 0) = some (.int .i64 v0) := fun v0 v1 v2 v3 v4 v5 => by kernel_rfl
  have p1 : ∀ (v0 v1 v2 v3 v4 v5 : Int), pv Try.prog (part 3 #[.int .i64 v0, .int .i64 v1, .int .i64 v2, .int .i64 v3, .int .i64 v4, .int .i64 v5] 1) = some (.int .i64 v1) := fun v0 v1 v2 v3 v4 v5 => by kernel_rfl
  have p2 : ∀ (v0 v1 v2 v3 v4 v5 : Int), pv Try.prog (part 3 #[.int .i64 v0, .int .i64 v1, .int .i64 v2, .int .i64 v3, .int .i64 v4, .int .i64 v5] 2) = some (.int .i64 v2) := fun v0 v1 v2 v3 v4 v5 => by kernel_rfl
  have p3 : ∀ (v0 v1 v2 v3 v4 v5 : Int), pv Try.prog (part 3 #[.int .i64 v0, .int .i64 v1, .int .i64 v2, .int .i64 v3, .int .i64 v4, .int .i64 v5] 3) = some (.int .i64 v3) := fun v0 v1 v2 v3 v4 v5 => by kernel_rfl
  have p4 : ∀ (v0 v1 v2 v3 v4 v5 : Int), pv Try.prog (part 3 #[.int .i64 v0, .int .i64 v1, .int .i64 v2, .int .i64 v3, .int .i64 v4, .int .i64 v5] 4) = some (.int .i64 v4) := fun v0 v1 v2 v3 v4 v5 => by kernel_rfl
  have p5 : ∀ (v0 v1 v2 v3 v4 v5 : Int), pv Try.prog (part 3 #[.int .i64 v0, .int .i64 v1, .int .i64 v2, .int .i64 v3, .int .i64 v4, .int .i64 v5] 5) = some (.int .i64 v5) := fun v0 v1 v2 v3 v4 v5 => by kernel_rfl
  rw [show Op.equal 59 (.agg #[.int .i64 a0, .int .i64 a1, .int .i64 a2, .int .i64 a3, .int .i64 a4, .int .i64 a5]) (.agg #[.int .i64 b0, .int .i64 b1, .int .i64 b2, .int .i64 b3, .int .i64 b4, .int .i64 b5]) = Op.equalIn (9999 + 1) 59 (.agg #[.int .i64 a0, .int .i64 a1, .int .i64 a2, .int .i64 a3, .int .i64 a4, .int .i64 a5]) (.agg #[.int .i64 b0, .int .i64 b1, .int .i64 b2, .int .i64 b3, .int .i64 b4, .int .i64 b5]) from rfl, pv_eqS 9999 _ _ hu hs, loopS_pv]
  simp only [List.map_cons, List.map_nil, ne_eq, String.reduceEq, not_false_eq_true, if_true, pv_bind, p0, p1, p2, p3, p4, p5, Option.bind_some, allB]
  simp only [pv_eqI 9998, show (9999 : Nat) = 9998 + 1 from rfl, Option.bind_some, same6]
  cases (a0 == b0) <;> cases (a1 == b1) <;> cases (a2 == b2) <;> cases (a3 == b3) <;> cases (a4 == b4) <;> cases (a5 == b5) <;> rfl
theorem sem_eqlCr {ρ : Operand → Value} {a0 a1 a2 a3 a4 a5 b0 b1 b2 b3 b4 b5 : Int} (hx : ρ x = (.agg #[.int .i64 a0, .int .i64 a1, .int .i64 a2, .int .i64 a3, .int .i64 a4, .int .i64 a5])) (hy : ρ y = (.agg #[.int .i64 b0, .int .i64 b1, .int .i64 b2, .int .i64 b3, .int .i64 b4, .int .i64 b5])) : pv Try.prog (execOp ρ ⟨d, .binOp .eql 59 x y tz, ty, pos, af, g⟩) = some (.value (.bool ( (same6 a0 a1 a2 a3 a4 a5 b0 b1 b2 b3 b4 b5)))) := by
  have e0 : pv Try.prog (eqGuard .eql 59 x y (.agg #[.int .i64 a0, .int .i64 a1, .int .i64 a2, .int .i64 a3, .int .i64 a4, .int .i64 a5]) (.agg #[.int .i64 b0, .int .i64 b1, .int .i64 b2, .int .i64 b3, .int .i64 b4, .int .i64 b5])) = some () := by kernel_rfl
  have e1 : binOp .eql 59 (.agg #[.int .i64 a0, .int .i64 a1, .int .i64 a2, .int .i64 a3, .int .i64 a4, .int .i64 a5]) (.agg #[.int .i64 b0, .int .i64 b1, .int .i64 b2, .int .i64 b3, .int .i64 b4, .int .i64 b5]) = (do pure (.bool (← Op.equal 59 (.agg #[.int .i64 a0, .int .i64 a1, .int .i64 a2, .int .i64 a3, .int .i64 a4, .int .i64 a5]) (.agg #[.int .i64 b0, .int .i64 b1, .int .i64 b2, .int .i64 b3, .int .i64 b4, .int .i64 b5])))) := rfl
  simp only [execOp, hx, hy, e1, pv_bind, e0, Option.bind_some, pvEq_Cr]
  rfl
@[simp] theorem eff_eqlCr : effPure Try.prog σ t ⟨d, .binOp .eql 59 x y tz, ty, pos, af, g⟩ = cmp6 (valOf σ x) (valOf σ y) (fun b => b) t (effZ Try.prog σ t ⟨d, .binOp .eql 59 x y tz, ty, pos, af, g⟩) := by
  unfold cmp6
  split
  · next a0 a1 a2 a3 a4 a5 b0 b1 b2 b3 b4 b5 hx hy =>
    unfold effPure
    rw [if_pos (by simp [pureOp, Op.operands, hx, hy, -valOf])]
    rw [sem_eqlCr (ρ := fun x => (valOf σ x).getD undef) (a0 := a0) (a1 := a1) (a2 := a2) (a3 := a3) (a4 := a4) (a5 := a5) (b0 := b0) (b1 := b1) (b2 := b2) (b3 := b3) (b4 := b4) (b5 := b5) (by show (valOf σ x).getD undef = _; rw [hx]; rfl) (by show (valOf σ y).getD undef = _; rw [hy]; rfl)]
    rfl
  · rfl
theorem pvEq_Ct (a0 a1 a2 a3 a4 a5 b0 b1 b2 b3 b4 b5 : Int) : pv Try.prog (Op.equal 62 (.agg #[.int .i64 a0, .int .i64 a1, .int .i64 a2, .int .i64 a3, .int .i64 a4, .int .i64 a5]) (.agg #[.int .i64 b0, .int .i64 b1, .int .i64 b2, .int .i64 b3, .int .i64 b4, .int .i64 b5])) = some (same6 a0 a1 a2 a3 a4 a5 b0 b1 b2 b3 b4 b5) := by
  have hu : pv Try.prog (underlying 62) = some (.struct #[⟨"A", 3, 0, false, "", "", 0⟩, ⟨"B", 3, 1, false, "", "", 8⟩, ⟨"C", 3, 2, false, "", "", 16⟩, ⟨"P", 3, 3, false, "", "", 24⟩, ⟨"Q", 3, 4, false, "", "", 32⟩, ⟨"R", 3, 5, false, "", "", 40⟩]) := by kernel_rfl
  have hs : Try.prog.stoodInHeld 62 = false := by kernel_rfl
  have p0 : ∀ (v0 v1 v2 v3 v4 v5 : Int), pv Try.prog (part 3 #[.int .i64 v0, .int .i64 v1, .int .i64 v2, .int .i64 v3, .int .i64 v4, .int .i64 v5] 0) = some (.int .i64 v0) := fun v0 v1 v2 v3 v4 v5 => by kernel_rfl
  have p1 : ∀ (v0 v1 v2 v3 v4 v5 : Int), pv Try.prog (part 3 #[.int .i64 v0, .int .i64 v1, .int .i64 v2, .int .i64 v3, .int .i64 v4, .int .i64 v5] 1) = some (.int .i64 v1) := fun v0 v1 v2 v3 v4 v5 => by kernel_rfl
  have p2 : ∀ (v0 v1 v2 v3 v4 v5 : Int), pv Try.prog (part 3 #[.int .i64 v0, .int .i64 v1, .int .i64 v2, .int .i64 v3, .int .i64 v4, .int .i64 v5] 2) = some (.int .i64 v2) := fun v0 v1 v2 v3 v4 v5 => by kernel_rfl
  have p3 : ∀ (v0 v1 v2 v3 v4 v5 : Int), pv Try.prog (part 3 #[.int .i64 v0, .int .i64 v1, .int .i64 v2, .int .i64 v3, .int .i64 v4, .int .i64 v5] 3) = some (.int .i64 v3) := fun v0 v1 v2 v3 v4 v5 => by kernel_rfl
  have p4 : ∀ (v0 v1 v2 v3 v4 v5 : Int), pv Try.prog (part 3 #[.int .i64 v0, .int .i64 v1, .int .i64 v2, .int .i64 v3, .int .i64 v4, .int .i64 v5] 4) = some (.int .i64 v4) := fun v0 v1 v2 v3 v4 v5 => by kernel_rfl
  have p5 : ∀ (v0 v1 v2 v3 v4 v5 : Int), pv Try.prog (part 3 #[.int .i64 v0, .int .i64 v1, .int .i64 v2, .int .i64 v3, .int .i64 v4, .int .i64 v5] 5) = some (.int .i64 v5) := fun v0 v1 v2 v3 v4 v5 => by kernel_rfl
  rw [show Op.equal 62 (.agg #[.int .i64 a0, .int .i64 a1, .int .i64 a2, .int .i64 a3, .int .i64 a4, .int .i64 a5]) (.agg #[.int .i64 b0, .int .i64 b1, .int .i64 b2, .int .i64 b3, .int .i64 b4, .int .i64 b5]) = Op.equalIn (9999 + 1) 62 (.agg #[.int .i64 a0, .int .i64 a1, .int .i64 a2, .int .i64 a3, .int .i64 a4, .int .i64 a5]) (.agg #[.int .i64 b0, .int .i64 b1, .int .i64 b2, .int .i64 b3, .int .i64 b4, .int .i64 b5]) from rfl, pv_eqS 9999 _ _ hu hs, loopS_pv]
  simp only [List.map_cons, List.map_nil, ne_eq, String.reduceEq, not_false_eq_true, if_true, pv_bind, p0, p1, p2, p3, p4, p5, Option.bind_some, allB]
  simp only [pv_eqI 9998, show (9999 : Nat) = 9998 + 1 from rfl, Option.bind_some, same6]
  cases (a0 == b0) <;> cases (a1 == b1) <;> cases (a2 == b2) <;> cases (a3 == b3) <;> cases (a4 == b4) <;> cases (a5 == b5) <;> rfl
theorem sem_neqCt {ρ : Operand → Value} {a0 a1 a2 a3 a4 a5 b0 b1 b2 b3 b4 b5 : Int} (hx : ρ x = (.agg #[.int .i64 a0, .int .i64 a1, .int .i64 a2, .int .i64 a3, .int .i64 a4, .int .i64 a5])) (hy : ρ y = (.agg #[.int .i64 b0, .int .i64 b1, .int .i64 b2, .int .i64 b3, .int .i64 b4, .int .i64 b5])) : pv Try.prog (execOp ρ ⟨d, .binOp .neq 62 x y tz, ty, pos, af, g⟩) = some (.value (.bool (! (same6 a0 a1 a2 a3 a4 a5 b0 b1 b2 b3 b4 b5)))) := by
  have e0 : pv Try.prog (eqGuard .neq 62 x y (.agg #[.int .i64 a0, .int .i64 a1, .int .i64 a2, .int .i64 a3, .int .i64 a4, .int .i64 a5]) (.agg #[.int .i64 b0, .int .i64 b1, .int .i64 b2, .int .i64 b3, .int .i64 b4, .int .i64 b5])) = some () := by kernel_rfl
  have e1 : binOp .neq 62 (.agg #[.int .i64 a0, .int .i64 a1, .int .i64 a2, .int .i64 a3, .int .i64 a4, .int .i64 a5]) (.agg #[.int .i64 b0, .int .i64 b1, .int .i64 b2, .int .i64 b3, .int .i64 b4, .int .i64 b5]) = (do pure (.bool (!(← Op.equal 62 (.agg #[.int .i64 a0, .int .i64 a1, .int .i64 a2, .int .i64 a3, .int .i64 a4, .int .i64 a5]) (.agg #[.int .i64 b0, .int .i64 b1, .int .i64 b2, .int .i64 b3, .int .i64 b4, .int .i64 b5]))))) := rfl
  simp only [execOp, hx, hy, e1, pv_bind, e0, Option.bind_some, pvEq_Ct]
  rfl
@[simp] theorem eff_neqCt : effPure Try.prog σ t ⟨d, .binOp .neq 62 x y tz, ty, pos, af, g⟩ = cmp6 (valOf σ x) (valOf σ y) (fun b => !b) t (effZ Try.prog σ t ⟨d, .binOp .neq 62 x y tz, ty, pos, af, g⟩) := by
  unfold cmp6
  split
  · next a0 a1 a2 a3 a4 a5 b0 b1 b2 b3 b4 b5 hx hy =>
    unfold effPure
    rw [if_pos (by simp [pureOp, Op.operands, hx, hy, -valOf])]
    rw [sem_neqCt (ρ := fun x => (valOf σ x).getD undef) (a0 := a0) (a1 := a1) (a2 := a2) (a3 := a3) (a4 := a4) (a5 := a5) (b0 := b0) (b1 := b1) (b2 := b2) (b3 := b3) (b4 := b4) (b5 := b5) (by show (valOf σ x).getD undef = _; rw [hx]; rfl) (by show (valOf σ y).getD undef = _; rw [hy]; rfl)]
    rfl
  · rfl
theorem pvEq_Ed (a0 a1 b0 b1 : Int) : pv Try.prog (Op.equal 57 (.agg #[.int .i64 a0, .int .i64 a1]) (.agg #[.int .i64 b0, .int .i64 b1])) = some (same2 a0 a1 b0 b1) := by
  have hu : pv Try.prog (underlying 57) = some (.struct #[⟨"A", 3, 0, false, "", "", 0⟩, ⟨"B", 3, 1, false, "", "", 8⟩]) := by kernel_rfl
  have hs : Try.prog.stoodInHeld 57 = false := by kernel_rfl
  have p0 : ∀ (v0 v1 : Int), pv Try.prog (part 3 #[.int .i64 v0, .int .i64 v1] 0) = some (.int .i64 v0) := fun v0 v1 => by kernel_rfl
  have p1 : ∀ (v0 v1 : Int), pv Try.prog (part 3 #[.int .i64 v0, .int .i64 v1] 1) = some (.int .i64 v1) := fun v0 v1 => by kernel_rfl
  rw [show Op.equal 57 (.agg #[.int .i64 a0, .int .i64 a1]) (.agg #[.int .i64 b0, .int .i64 b1]) = Op.equalIn (9999 + 1) 57 (.agg #[.int .i64 a0, .int .i64 a1]) (.agg #[.int .i64 b0, .int .i64 b1]) from rfl, pv_eqS 9999 _ _ hu hs, loopS_pv]
  simp only [List.map_cons, List.map_nil, ne_eq, String.reduceEq, not_false_eq_true, if_true, pv_bind, p0, p1, Option.bind_some, allB]
  simp only [pv_eqI 9998, show (9999 : Nat) = 9998 + 1 from rfl, Option.bind_some, same2]
  cases (a0 == b0) <;> cases (a1 == b1) <;> rfl
theorem sem_neqEd {ρ : Operand → Value} {a0 a1 b0 b1 : Int} (hx : ρ x = (.agg #[.int .i64 a0, .int .i64 a1])) (hy : ρ y = (.agg #[.int .i64 b0, .int .i64 b1])) : pv Try.prog (execOp ρ ⟨d, .binOp .neq 57 x y tz, ty, pos, af, g⟩) = some (.value (.bool (! (same2 a0 a1 b0 b1)))) := by
  have e0 : pv Try.prog (eqGuard .neq 57 x y (.agg #[.int .i64 a0, .int .i64 a1]) (.agg #[.int .i64 b0, .int .i64 b1])) = some () := by kernel_rfl
  have e1 : binOp .neq 57 (.agg #[.int .i64 a0, .int .i64 a1]) (.agg #[.int .i64 b0, .int .i64 b1]) = (do pure (.bool (!(← Op.equal 57 (.agg #[.int .i64 a0, .int .i64 a1]) (.agg #[.int .i64 b0, .int .i64 b1]))))) := rfl
  simp only [execOp, hx, hy, e1, pv_bind, e0, Option.bind_some, pvEq_Ed]
  rfl
@[simp] theorem eff_neqEd : effPure Try.prog σ t ⟨d, .binOp .neq 57 x y tz, ty, pos, af, g⟩ = cmp2 (valOf σ x) (valOf σ y) (fun b => !b) t (effZ Try.prog σ t ⟨d, .binOp .neq 57 x y tz, ty, pos, af, g⟩) := by
  unfold cmp2
  split
  · next a0 a1 b0 b1 hx hy =>
    unfold effPure
    rw [if_pos (by simp [pureOp, Op.operands, hx, hy, -valOf])]
    rw [sem_neqEd (ρ := fun x => (valOf σ x).getD undef) (a0 := a0) (a1 := a1) (b0 := b0) (b1 := b1) (by show (valOf σ x).getD undef = _; rw [hx]; rfl) (by show (valOf σ y).getD undef = _; rw [hy]; rfl)]
    rfl
  · rfl
end
end Go.Proofs.Ytnmocjhpbobahaa.L
namespace Go.Proofs.Ytnmocjhpbobahaa.L
open Go Go.RowKit
set_option maxRecDepth 100000
set_option maxHeartbeats 4000000
theorem same6_t {a b c p q s a' b' c' p' q' s' : Int} (h : same6 a b c p q s a' b' c' p' q' s' = true) : same6 a b c p q s a' b' c' p' q' s' = true := h
theorem same6_f {a b c p q s a' b' c' p' q' s' : Int} (h : same6 a b c p q s a' b' c' p' q' s' = false) : same6 a b c p q s a' b' c' p' q' s' = false := h
attribute [local simp] same6_t same6_f
theorem wSameC (l m : List Cu) (hl : l.length ≤ 1000000) (hm : m.length ≤ 1000000) : ∃ c, Try.f25.body = some c ∧ RP (regOf Try.prog env0 26 u25) c (argsSt 0 [cuts l, cuts m]) (endsAs Try.prog Try.f25 (bv (decide (l = m)))) := by
  refine ⟨_, rfl, ?_⟩
  generalize hQ : endsAs Try.prog Try.f25 (bv (decide (l = m))) = Q
  simp only [argsSt]
  by_cases hlm : l.length = m.length
  case neg =>
    rw [decide_eq_false (fun e => hlm (by rw [e]))] at hQ
    refine go ?_
    show Q .ret _; refine fin_ret hQ rfl ?_
    rfl
  refine go ?_
  apply rp_loop (fun k σ => ∃ i : Nat, i ≤ l.length ∧ k = l.length - i ∧ (∀ j, j < i → cuAt l j = cuAt m j) ∧ σ = [(0, cuts l), (1, cuts m), (5, iv i)]) l.length
  · exact ⟨0, by omega, by omega, fun j hj => absurd hj (Nat.not_lt_zero _), rfl⟩
  rintro k σ ⟨i, hi, rfl, hno, rfl⟩
  by_cases hil : i < l.length
  · have him : i < m.length := by omega
    cases hs : same6 (cuAt l i).1 (cuAt l i).2.1 (cuAt l i).2.2.1 (cuAt l i).2.2.2.1 (cuAt l i).2.2.2.2.1 (cuAt l i).2.2.2.2.2 (cuAt m i).1 (cuAt m i).2.1 (cuAt m i).2.2.1 (cuAt m i).2.2.2.1 (cuAt m i).2.2.2.2.1 (cuAt m i).2.2.2.2.2 with
    | true =>
      obtain ⟨x1, x2, x3, x4, x5, x6⟩ := same6_iff.1 hs
      have e : cuAt l i = cuAt m i := Prod.ext x1 (Prod.ext x2 (Prod.ext x3 (Prod.ext x4 (Prod.ext x5 x6))))
      clear x1 x2 x3 x4 x5 x6
      refine go ?_
      exact nxt (l.length - (i + 1)) (by omega) ⟨i + 1, by omega, rfl, fun j hj => by
        rcases Nat.lt_succ_iff_lt_or_eq.1 hj with h | rfl
        · exact hno j h
        · exact e, rfl⟩
    | false =>
      rw [decide_eq_false (fun e => by rw [e, same6_iff.2 ⟨rfl, rfl, rfl, rfl, rfl, rfl⟩] at hs; cases hs)] at hQ
      refine go ?_
      show Q .ret _; refine fin_ret hQ rfl ?_
      rfl
  have he : l = m := by
    refine List.ext_getElem hlm fun j h1 h2 => ?_
    rw [← cuAt_eq h1, ← cuAt_eq h2]
    exact hno j (by omega)
  rw [decide_eq_true he] at hQ
  refine go ?_
  show Q .ret _; refine fin_ret hQ rfl ?_
  rfl
def specSameC : Spec := spec2 asCuts asCuts fun l m => when (l.length ≤ 1000000 ∧ m.length ≤ 1000000) (bv (decide (l = m)))
theorem okSameC : SpecOk 25 specSameC := by
  intro us r h
  obtain ⟨x, y, l, m, rfl, hl, hm, h⟩ := spec2_eq h
  obtain ⟨⟨h1, h2⟩, rfl⟩ := when_eq h
  rw [asCuts_eq hl, asCuts_eq hm]
  exact goodBy2 env0_ok Try.func25 rfl (Nat.le_of_ble_eq_true rfl) (by decide) (wSameC l m h1 h2)
@[simp] theorem sSameC (l m : List Cu) (h : l.length ≤ 1000000 ∧ m.length ≤ 1000000) : specSameC [⟨.one, [.c (.sl false 6 () (CL l))]⟩, ⟨.one, [.c (.sl false 6 () (CL m))]⟩] = some (bv (decide (l = m))) := by
  unfold specSameC; rw [spec2_v (asCuts_cuts l) (asCuts_cuts m)]; exact when_pos _ h
@[simp] theorem callSameC {E : Env} {σ : St Unit} {t : Nat} {l : List Operand} : effCall Try.prog E ΩU σ t 25 l = callO E 25 t (argsOf Try.prog ΩU σ [29, 29] l) := eff_call Try.func25 Try.params25
/-! ### Same: of a trace and itself -/
noncomputable abbrev ESame20 : Env := ext env0 25 specSameC
theorem wSame20 (n : Int) (l : List Cu) (hl : l.length ≤ 1000000) : ∃ c, Try.f11.body = some c ∧ RP (regOf Try.prog ESame20 17 u11) c (argsSt 0 [tr n l, tr n l]) (endsAs Try.prog Try.f11 (bv true)) := by
  refine ⟨_, rfl, ?_⟩
  generalize hQ : endsAs Try.prog Try.f11 (bv true) = Q
  simp only [argsSt]
  have e : n = n := rfl
  have e2 : l = l := rfl
  refine go ?_
  show Q .ret _; refine fin_ret hQ rfl ?_
  rfl
noncomputable def specSame20 : Spec := spec2 asTr asTr fun a b => whenC (a = b ∧ a.2.length ≤ 1000000) (bv true)
theorem okSame20 : SpecOk 11 specSame20 := by
  intro us r h
  obtain ⟨x, y, l, m, rfl, hl, hm, h⟩ := spec2_eq h
  obtain ⟨⟨h1, h2⟩, rfl⟩ := whenC_eq h
  rw [asTr_eq hl, asTr_eq hm, ← h1]
  exact goodBy2 (ext_ok env0_ok okSameC) Try.func11 rfl (Nat.le_of_ble_eq_true rfl) (by decide) (wSame20 l.1 l.2 h2)
@[simp] theorem sSame20 (n : Int) (l : List Cu) (h : l.length ≤ 1000000) : specSame20 [⟨.agg, [.c (.sc (.int .i64 n)), .c (.sl false 6 () (CL l))]⟩, ⟨.agg, [.c (.sc (.int .i64 n)), .c (.sl false 6 () (CL l))]⟩] = some (bv true) := by
  unfold specSame20; rw [spec2_v (asTr_tr n l) (asTr_tr n l)]; exact whenC_pos _ ⟨rfl, h⟩
@[simp] theorem callSame20 {E : Env} {σ : St Unit} {t : Nat} {l : List Operand} : effCall Try.prog E ΩU σ t 11 l = callO E 11 t (argsOf Try.prog ΩU σ [31, 31] l) := eff_call Try.func11 Try.params11
end Go.Proofs.Ytnmocjhpbobahaa.L
