/- S8: cuts and graphs that are built. -/
import Derived.Test.YtngglgkemonibaaQ38
set_option linter.unusedVariables false
set_option linter.unusedSimpArgs false
set_option linter.unnecessarySimpa false
namespace Go.Proofs.Ytngglgkemonibaa.L
open Go Go.RowKit
set_option maxRecDepth 100000
@[simp] theorem min_lit (a k : Nat) : min (a : Int) (no_index (@OfNat.ofNat Int k (@instOfNat k))) = ((min a (@OfNat.ofNat Nat k (instOfNatNat k)) : Nat) : Int) := by
  show min (a : Int) (k : Int) = ((min a k : Nat) : Int)
  omega
@[simp] theorem EL_take2 (es : List (Int × Int)) (k : Nat) : (EL es).take (k * 2) = EL (es.take k) := by
  induction es generalizing k with
  | nil => simp [EL]
  | cons e l ih =>
    cases k with
    | zero => simp [EL]
    | succ k => rw [show (k + 1) * 2 = k * 2 + 1 + 1 by omega]; simp only [EL, List.take_succ_cons, ih]
theorem EL_drop2 (es : List (Int × Int)) (k : Nat) : (EL es).drop (k * 2) = EL (es.drop k) := EL_drop es k
@[simp] theorem EL_nil : EL [] = [] := rfl
@[simp] theorem zok46 : zeroOk Try.prog 46 = true := by kernel_rfl
@[simp] theorem bytes46 : Try.prog.bytesOf 46 = 16 := by kernel_rfl
@[simp] theorem zok25 : zeroOk Try.prog 25 = true := by kernel_rfl
@[simp] theorem bytes25 : Try.prog.bytesOf 25 = 24 := by kernel_rfl
@[simp] theorem zero25 : zeroCellsOf Try.prog () 25 = some [.sl true 1 () []] := by kernel_rfl
@[simp] theorem iteF {α : Type} {p : Prop} [Decidable p] {a : Option α} (h : ¬ p) : (if p then none else a) = a := if_neg h
@[simp] theorem IL_tail (l : List Int) : (IL l).tail = IL l.tail := by cases l <;> rfl
@[simp] theorem IL_nth1 (l : List Int) (h : 1 < l.length) : (IL (l.tail.take 1)).map SC.c = [.c (.sc (.int .i64 (nth l 1)))] := by
  have := IL_nth l 1 h
  rwa [List.drop_one] at this
end Go.Proofs.Ytngglgkemonibaa.L
