/- S11: int to uint and back; half. -/
import Derived.Test.YtnmocjhpbobahaaQ18
set_option linter.unusedVariables false
set_option linter.unusedSimpArgs false
set_option linter.unnecessarySimpa false
namespace Go.Proofs.Ytnmocjhpbobahaa.L
open Go Go.RowKit
def int1 (k : IntKind) (u : Option Value) (f : Int → SV Unit) (t : Nat) (z : Option (Eff Unit)) : Option (Eff Unit) := match u with
  | some (.int k' a) => if k' = k then some (effP t (f a)) else z
  | _ => z
@[simp] theorem int1_i (a : Int) (k : IntKind) (f : Int → SV Unit) (t : Nat) (z : Option (Eff Unit)) : int1 k (some (.int k a)) f t z = some (effP t (f a)) := by simp [int1]
abbrev uv (n : Int) : SV Unit := ⟨.one, [.c (.sc (.int .u64 n))]⟩
section
variable {σ : St Unit} {t : Nat} {x : Operand} {d : Option Nat} {ty : TypeId} {pos : String} {af : Array Edge} {g : Option (Nat × Bool)}
theorem sem_toU {ρ : Operand → Value} {a : Int} (hx : ρ x = .int .i64 a) : pv Try.prog (execOp ρ ⟨d, .convert 3 116 x, ty, pos, af, g⟩) = some (.value (.int .u64 (IntKind.u64.wrap a))) := by
  simp only [execOp, hx]; kernel_rfl
theorem sem_ofU {ρ : Operand → Value} {a : Int} (hx : ρ x = .int .u64 a) : pv Try.prog (execOp ρ ⟨d, .convert 116 3 x, ty, pos, af, g⟩) = some (.value (.int .i64 (IntKind.i64.wrap a))) := by
  simp only [execOp, hx]; kernel_rfl
theorem sem_half {ρ : Operand → Value} {a : Int} (hx : ρ x = .int .u64 a) (hy : ρ (.const (.int .u64 1)) = .int .u64 1) : pv Try.prog (execOp ρ ⟨d, .binOp .shr 116 x (.const (.int .u64 1)) 116, ty, pos, af, g⟩) = some (.value (.int .u64 (a.fdiv 2))) := by
  simp only [execOp, hx, hy]; kernel_rfl
@[simp] theorem eff_toU : effPure Try.prog σ t ⟨d, .convert 3 116 x, ty, pos, af, g⟩ = int1 .i64 (valOf σ x) (fun a => uv (IntKind.u64.wrap a)) t (effZ Try.prog σ t ⟨d, .convert 3 116 x, ty, pos, af, g⟩) := by
  unfold int1
  split
  · next k a hx =>
    split
    · next hk =>
      subst hk
      unfold effPure
      rw [if_pos (by simp [pureOp, Op.operands, hx, -valOf]), sem_toU (a := a) (by rw [hx]; rfl)]
      rfl
    · rfl
  · rfl
@[simp] theorem eff_ofU : effPure Try.prog σ t ⟨d, .convert 116 3 x, ty, pos, af, g⟩ = int1 .u64 (valOf σ x) (fun a => iv (IntKind.i64.wrap a)) t (effZ Try.prog σ t ⟨d, .convert 116 3 x, ty, pos, af, g⟩) := by
  unfold int1
  split
  · next k a hx =>
    split
    · next hk =>
      subst hk
      unfold effPure
      rw [if_pos (by simp [pureOp, Op.operands, hx, -valOf]), sem_ofU (a := a) (by rw [hx]; rfl)]
      rfl
    · rfl
  · rfl
@[simp] theorem eff_half : effPure Try.prog σ t ⟨d, .binOp .shr 116 x (.const (.int .u64 1)) 116, ty, pos, af, g⟩ = int1 .u64 (valOf σ x) (fun a => uv (a.fdiv 2)) t (effZ Try.prog σ t ⟨d, .binOp .shr 116 x (.const (.int .u64 1)) 116, ty, pos, af, g⟩) := by
  unfold int1
  split
  · next k a hx =>
    split
    · next hk =>
      subst hk
      unfold effPure
      have hc : valOf σ (.const (.int .u64 1)) = some (.int .u64 1) := rfl
      rw [if_pos (by simp [pureOp, Op.operands, hx, hc, -valOf]), sem_half (a := a) (by rw [hx]; rfl) (by rw [hc]; rfl)]
      rfl
    · rfl
  · rfl
end
@[simp] theorem u64_add (i j : Nat) (h : i + j < 9223372036854775808) : IntKind.u64.wrap ((i : Int) + j) = (i : Int) + j := by simp [IntKind.wrap, IntKind.bits, IntKind.signed]; omega
/-- Half (closed to simp). -/
def halfN (i j : Nat) : Nat := (i + j) / 2
theorem halfN_lt {i j : Nat} (h : i < j) : i ≤ halfN i j ∧ halfN i j < j := by unfold halfN; omega
@[simp] theorem half_add (i j : Nat) : ((i : Int) + j).fdiv 2 = ((halfN i j : Nat) : Int) := by rw [Int.fdiv_eq_ediv_of_nonneg _ (by omega)]; unfold halfN; omega
end Go.Proofs.Ytnmocjhpbobahaa.L
