/- RN: arrays of three numbers, and cuts, compared. -/
import Derived.Test.YtnmocjhpbobahaaY16
import Derived.Laws.Sem
set_option linter.unusedVariables false
set_option linter.unusedSimpArgs false
set_option linter.unnecessarySimpa false
namespace Go.Proofs.Ytnmocjhpbobahaa.L
open Go Go.RowKit
set_option maxRecDepth 100000
theorem pv_bind {α β : Type} (P : Program) (s : Sem α) (f : α → Sem β) : pv P (s >>= f) = (pv P s).bind fun b => pv P (f b) := by
  show pv P (Sem.bind s f) = _
  induction s with
  | pure b => rfl
  | program k ih => exact ih P
  | mark m k ih => exact ih
  | _ => rfl
theorem pv_pure {α : Type} (P : Program) (a : α) : pv P (pure a : Sem α) = some a := rfl
theorem pv_ite {α : Type} (P : Program) (c : Prop) [Decidable c] (s s' : Sem α) : pv P (if c then s else s') = if c then pv P s else pv P s' := by split <;> rfl
def loopB (n : Nat) (f : Nat → Sem Bool) : Sem Bool := do
  for i in [0:n] do
    if !(← f i) then return false
  pure true
def allB : List (Option Bool) → Option Bool
  | [] => some true
  | x :: l => x.bind fun b => if b = true then allB l else some false
theorem loopB_pv (P : Program) (n : Nat) (f : Nat → Sem Bool) : pv P (loopB n f) = allB ((List.range' 0 n).map fun i => pv P (f i)) := by
  unfold loopB
  simp only [Std.Legacy.Range.forIn_eq_forIn_range']
  have e : [:n].size = n := by simp [Std.Legacy.Range.size]
  rw [e]
  generalize List.range' 0 n = l
  induction l with
  | nil => rfl
  | cons i l ih =>
    rw [List.forIn_cons, List.map_cons, allB, pv_bind, pv_bind, pv_bind]
    cases pv P (f i) with
    | none => rfl
    | some b =>
      cases b with
      | true =>
        rw [pv_bind] at ih
        simpa [pv_ite, pv_pure] using ih
      | false => rfl
section
variable {σ : St Unit} {t : Nat} {x y : Operand} {d : Option Nat} {ty tz : TypeId} {pos : String} {af : Array Edge} {g : Option (Nat × Bool)}
theorem pv_eqI (k : Nat) (a a' : Int) : pv Try.prog (Op.equalIn (k + 1) 3 (.int .i64 a) (.int .i64 a')) = some (a == a') := by kernel_rfl
theorem pv_eq3 (k : Nat) (a b c a' b' c' : Int) : pv Try.prog (Op.equalIn (k + 2) 82 (.agg #[.int .i64 a, .int .i64 b, .int .i64 c]) (.agg #[.int .i64 a', .int .i64 b', .int .i64 c'])) = pv Try.prog (loopB 3 fun i => do
    Op.equalIn (k + 1) 3 (← part 3 #[.int .i64 a, .int .i64 b, .int .i64 c] (i * 1)) (← part 3 #[.int .i64 a', .int .i64 b', .int .i64 c'] (i * 1))) := by
  have u : pv Try.prog (underlying 82) = some (.array 3 3) := by kernel_rfl
  have z : pv Try.prog (sizeOf 3) = some 1 := by kernel_rfl
  show pv Try.prog (Op.equalIn (k + 1 + 1) _ _ _) = _
  rw [Op.equalIn, pv_bind, u]
  simp only [Option.bind_some]
  rw [pv_bind, z]
  simp only [Option.bind_some, loopB, bind_assoc]
theorem sem_neq3 {ρ : Operand → Value} {a b c a' b' c' : Int} (hx : ρ x = .agg #[.int .i64 a, .int .i64 b, .int .i64 c]) (hy : ρ y = .agg #[.int .i64 a', .int .i64 b', .int .i64 c']) : pv Try.prog (execOp ρ ⟨d, .binOp .neq 82 x y tz, ty, pos, af, g⟩) = some (.value (.bool (!(a == a' && (b == b' && c == c'))))) := by
  have e0 : pv Try.prog (eqGuard .neq 82 x y (.agg #[.int .i64 a, .int .i64 b, .int .i64 c]) (.agg #[.int .i64 a', .int .i64 b', .int .i64 c'])) = some () := by kernel_rfl
  have e1 : binOp .neq 82 (.agg #[.int .i64 a, .int .i64 b, .int .i64 c]) (.agg #[.int .i64 a', .int .i64 b', .int .i64 c']) = (do pure (.bool (!(← Op.equal 82 (.agg #[.int .i64 a, .int .i64 b, .int .i64 c]) (.agg #[.int .i64 a', .int .i64 b', .int .i64 c']))))) := rfl
  have e2 := pv_eq3 9998 a b c a' b' c'
  have p0 : ∀ (u v w : Int), pv Try.prog (part 3 #[.int .i64 u, .int .i64 v, .int .i64 w] (0 * 1)) = some (.int .i64 u) := fun u v w => by kernel_rfl
  have p1 : ∀ (u v w : Int), pv Try.prog (part 3 #[.int .i64 u, .int .i64 v, .int .i64 w] (1 * 1)) = some (.int .i64 v) := fun u v w => by kernel_rfl
  have p2 : ∀ (u v w : Int), pv Try.prog (part 3 #[.int .i64 u, .int .i64 v, .int .i64 w] (2 * 1)) = some (.int .i64 w) := fun u v w => by kernel_rfl
  simp only [execOp, hx, hy, e1, pv_bind, e0, Option.bind_some]
  rw [show Op.equal 82 (.agg #[.int .i64 a, .int .i64 b, .int .i64 c]) (.agg #[.int .i64 a', .int .i64 b', .int .i64 c']) = Op.equalIn (9998 + 2) 82 (.agg #[.int .i64 a, .int .i64 b, .int .i64 c]) (.agg #[.int .i64 a', .int .i64 b', .int .i64 c']) from rfl, e2, loopB_pv]
  simp only [List.range', List.map_cons, List.map_nil, pv_bind, p0, p1, p2, Nat.zero_add, Nat.reduceAdd, Option.bind_some, pv_eqI, allB, pv_pure]
  cases (a == a') <;> cases (b == b') <;> cases (c == c') <;> rfl
def same3 (a b c a' b' c' : Int) : Bool := a == a' && (b == b' && c == c')
theorem same3_iff {a b c a' b' c' : Int} : same3 a b c a' b' c' = true ↔ a = a' ∧ b = b' ∧ c = c' := by simp [same3]
def neq3 (u v : Option Value) (t : Nat) (z : Option (Eff Unit)) : Option (Eff Unit) := match u, v with
  | some (.agg ⟨[.int .i64 a, .int .i64 b, .int .i64 c]⟩), some (.agg ⟨[.int .i64 a', .int .i64 b', .int .i64 c']⟩) => some (effP t (bv (!(same3 a b c a' b' c'))))
  | _, _ => z
@[simp] theorem neq3_i (a b c a' b' c' : Int) (t : Nat) (z : Option (Eff Unit)) : neq3 (some (.agg #[.int .i64 a, .int .i64 b, .int .i64 c])) (some (.agg #[.int .i64 a', .int .i64 b', .int .i64 c'])) t z = some (effP t (bv (!(same3 a b c a' b' c')))) := rfl
@[simp] theorem eff_neq3 : effPure Try.prog σ t ⟨d, .binOp .neq 82 x y tz, ty, pos, af, g⟩ = neq3 (valOf σ x) (valOf σ y) t (effZ Try.prog σ t ⟨d, .binOp .neq 82 x y tz, ty, pos, af, g⟩) := by
  unfold neq3
  split
  · next a b c a' b' c' hx hy =>
    unfold effPure
    rw [if_pos (by simp [pureOp, Op.operands, hx, hy, -valOf])]
    rw [sem_neq3 (ρ := fun x => (valOf σ x).getD undef) (a := a) (b := b) (c := c) (a' := a') (b' := b') (c' := c') (by show (valOf σ x).getD undef = _; rw [hx]; rfl) (by show (valOf σ y).getD undef = _; rw [hy]; rfl)]
    rfl
  · rfl
end
end Go.Proofs.Ytnmocjhpbobahaa.L
