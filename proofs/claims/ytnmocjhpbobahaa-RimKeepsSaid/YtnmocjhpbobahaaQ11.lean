/- S8: cuts and graphs that are built. S9: rows of rows of one's own. -/
import Derived.Test.YtnmocjhpbobahaaQ10
set_option linter.unusedVariables false
set_option linter.unusedSimpArgs false
set_option linter.unnecessarySimpa false
namespace Go.Proofs.Ytnmocjhpbobahaa.L
open Go Go.RowKit
set_option maxRecDepth 100000
@[simp] theorem min_lit (a k : Nat) : min (a : Int) (no_index (@OfNat.ofNat Int k (@instOfNat k))) = ((min a (@OfNat.ofNat Nat k (instOfNatNat k)) : Nat) : Int) := by
  show min (a : Int) (k : Int) = ((min a k : Nat) : Int)
  omega
@[simp] theorem EL_take2 (es : List (Int × Int)) (k : Nat) : (EL es).take (k * 2) = EL (es.take k) := by
  induction es generalizing k with
  | nil => simp [EL]
  | cons e l ih =>
    cases k with
    | zero => simp [EL]
    | succ k => rw [show (k + 1) * 2 = k * 2 + 1 + 1 by omega]; simp only [EL, List.take_succ_cons, ih]
theorem EL_drop2 (es : List (Int × Int)) (k : Nat) : (EL es).drop (k * 2) = EL (es.drop k) := EL_drop es k
@[simp] theorem EL_nil : EL [] = [] := rfl
@[simp] theorem zok46 : zeroOk Try.prog 57 = true := by kernel_rfl
@[simp] theorem bytes46 : Try.prog.bytesOf 57 = 16 := by kernel_rfl
@[simp] theorem zok25 : zeroOk Try.prog 39 = true := by kernel_rfl
@[simp] theorem bytes25 : Try.prog.bytesOf 39 = 24 := by kernel_rfl
@[simp] theorem zero25 : zeroCellsOf Try.prog () 39 = some [.sl true 1 () []] := by kernel_rfl
@[simp] theorem iteF {α : Type} {p : Prop} [Decidable p] {a : Option α} (h : ¬ p) : (if p then none else a) = a := if_neg h
@[simp] theorem IL_tail (l : List Int) : (IL l).tail = IL l.tail := by cases l <;> rfl
@[simp] theorem IL_nth1 (l : List Int) (h : 1 < l.length) : (IL (l.tail.take 1)).map SC.c = [.c (.sc (.int .i64 (nth l 1)))] := by
  have := IL_nth l 1 h
  rwa [List.drop_one] at this
end Go.Proofs.Ytnmocjhpbobahaa.L
namespace Go.Proofs.Ytnmocjhpbobahaa.L
open Go Go.RowKit
set_option maxRecDepth 100000
def OL (l : List (List Int)) : List (Cell Unit) := l.map fun r => .sl true 1 () (IL r)
@[simp] theorem OL_length (l : List (List Int)) : (OL l).length = l.length := by simp [OL]
@[simp] theorem freezeL_OL : ∀ l : List (List Int), freezeL (OL l) = RL l
  | [] => rfl
  | n :: l => by have := freezeL_OL l; simp only [OL, RL, List.map_cons, freezeL, Cell.freeze, freezeL_IL] at this ⊢; rw [this]
@[simp] theorem allOwn_OL : ∀ l : List (List Int), allOwnL (OL l) = true
  | [] => rfl
  | n :: l => by have := allOwn_OL l; simp only [OL, List.map_cons, allOwnL, Cell.allOwn, allOwn_IL] at this ⊢; rw [this]; rfl
@[simp] theorem OL_get (l : List (List Int)) (k : Nat) (h : k < l.length) : (OL l)[k]? = some (.sl true 1 () (IL (nthR l k))) := by
  simp [OL, nthR, h]
@[simp] theorem OL_nth (l : List (List Int)) (k : Nat) (h : k < l.length) : ((OL l).drop k).take 1 = [.sl true 1 () (IL (nthR l k))] := by
  rw [OL, ← List.map_drop, ← List.map_take]
  have : List.take 1 (List.drop k l) = [l[k]] := by rw [List.drop_eq_getElem_cons h]; rfl
  rw [this]
  simp [nthR, h]
@[simp] theorem OL_set (l : List (List Int)) (k : Nat) (r : List Int) : (OL l).set k (.sl true 1 () (IL r)) = OL (l.set k r) := by simp [OL]
@[simp] theorem OL_app1 (l : List (List Int)) (r : List Int) : OL l ++ [.sl true 1 () (IL r)] = OL (l ++ [r]) := by simp [OL]
@[simp] theorem OL_mem_alive (l : List (List Int)) : (∀ x : Cell Unit, x ∈ OL l → x.isDead = false) = True := eq_true (fun x hx => by
  simp only [OL, List.mem_map] at hx; obtain ⟨r, _, rfl⟩ := hx; rfl)
@[simp] theorem OL_rep (n : Nat) : (List.replicate n (.sl true 1 () [] : Cell Unit)) = OL (List.replicate n []) := by simp [OL, IL]
@[simp] theorem OL_flat (n : Nat) : (List.replicate n [(.sl true 1 () [] : Cell Unit)]).flatten = OL (List.replicate n []) := by
  induction n with
  | zero => rfl
  | succ n ih => simp only [List.replicate_succ, List.flatten_cons, ih]; rfl
abbrev orows (l : List (List Int)) : SV Unit := ⟨.one, [.c (.sl true 1 () (OL l))]⟩
@[simp] theorem bytes36 : Try.prog.bytesOf 39 = 24 := by kernel_rfl
@[simp] theorem zero24 : zeroCellsOf Try.prog () 26 = some [.sc (.int .i64 0), .sl true 2 () []] := by kernel_rfl
@[simp] theorem infos46 : infosOk Try.prog 57 = true := by kernel_rfl
@[simp] theorem infos24 : infosOk Try.prog 26 = true := by kernel_rfl
attribute [simp] effBuild seeParts
end Go.Proofs.Ytnmocjhpbobahaa.L
