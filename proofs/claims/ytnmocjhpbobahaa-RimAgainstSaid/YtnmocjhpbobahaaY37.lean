/- UA: rows of rows of truth values; the document's table (layer 20). U59: Rest.Near, Rest.Count, Rest.inner of the document's table. U58: Rest.Count, Rest.inner, Rest.joins of the document's table. U34: Rest.Four, Rest.Fits of the document's table. -/
import Derived.Test.YtnmocjhpbobahaaY16
set_option linter.unusedVariables false
set_option linter.unusedSimpArgs false
set_option linter.unnecessarySimpa false
namespace Go.Proofs.Ytnmocjhpbobahaa.L
open Go Go.RowKit
set_option maxRecDepth 100000
def nthT (l : List (List Bool)) (i : Nat) : List Bool := l.getD i []
def RT (l : List (List Bool)) : List (Cell Unit) := l.map fun r => .sl false 1 () (BL r)
def OT (l : List (List Bool)) : List (Cell Unit) := l.map fun r => .sl true 1 () (BL r)
@[simp] theorem RT_length (l : List (List Bool)) : (RT l).length = l.length := by simp [RT]
@[simp] theorem RT_copy (l : List (List Bool)) : (RT l).all Cell.copyable = true := by induction l <;> simp_all [RT, Cell.copyable]
@[simp] theorem RT_mem_copy (l : List (List Bool)) : (∀ x : Cell Unit, x ∈ RT l → x.copyable = true) = True := eq_true (fun x hx => List.all_eq_true.1 (RT_copy l) x hx)
@[simp] theorem RT_nth (l : List (List Bool)) (k : Nat) (h : k < l.length) : ((RT l).drop k).take 1 = [.sl false 1 () (BL (nthT l k))] := by
  rw [RT, ← List.map_drop, ← List.map_take]
  have : List.take 1 (List.drop k l) = [l[k]] := by rw [List.drop_eq_getElem_cons h]; rfl
  rw [this]
  simp [nthT, h]
@[simp] theorem freezeL_RT : ∀ l : List (List Bool), freezeL (RT l) = RT l
  | [] => rfl
  | n :: l => by have := freezeL_RT l; simp only [RT, List.map_cons, freezeL, Cell.freeze, freezeL_BL] at this ⊢; rw [this]
@[simp] theorem OT_length (l : List (List Bool)) : (OT l).length = l.length := by simp [OT]
@[simp] theorem freezeL_OT : ∀ l : List (List Bool), freezeL (OT l) = RT l
  | [] => rfl
  | n :: l => by have := freezeL_OT l; simp only [OT, RT, List.map_cons, freezeL, Cell.freeze, freezeL_BL] at this ⊢; rw [this]
@[simp] theorem allOwn_OT : ∀ l : List (List Bool), allOwnL (OT l) = true
  | [] => rfl
  | n :: l => by have := allOwn_OT l; simp only [OT, List.map_cons, allOwnL, Cell.allOwn, allOwn_BL] at this ⊢; rw [this]; rfl
@[simp] theorem OT_get (l : List (List Bool)) (k : Nat) (h : k < l.length) : (OT l)[k]? = some (.sl true 1 () (BL (nthT l k))) := by
  simp [OT, nthT, h]
@[simp] theorem OT_nth (l : List (List Bool)) (k : Nat) (h : k < l.length) : ((OT l).drop k).take 1 = [.sl true 1 () (BL (nthT l k))] := by
  rw [OT, ← List.map_drop, ← List.map_take]
  have : List.take 1 (List.drop k l) = [l[k]] := by rw [List.drop_eq_getElem_cons h]; rfl
  rw [this]
  simp [nthT, h]
@[simp] theorem OT_set (l : List (List Bool)) (k : Nat) (r : List Bool) : (OT l).set k (.sl true 1 () (BL r)) = OT (l.set k r) := by simp [OT]
@[simp] theorem OT_app1 (l : List (List Bool)) (r : List Bool) : OT l ++ [.sl true 1 () (BL r)] = OT (l ++ [r]) := by simp [OT]
@[simp] theorem OT_mem_alive (l : List (List Bool)) : (∀ x : Cell Unit, x ∈ OT l → x.isDead = false) = True := eq_true (fun x hx => by
  simp only [OT, List.mem_map] at hx; obtain ⟨r, _, rfl⟩ := hx; rfl)
@[simp] theorem OT_nil : OT [] = [] := rfl
def toTs : List (Cell Unit) → Option (List (List Bool))
  | [] => some []
  | .sl false 1 _ row :: l => match toBools row, toTs l with
    | some r, some m => some (r :: m)
    | _, _ => none
  | _ => none
def toTo : List (Cell Unit) → Option (List (List Bool))
  | [] => some []
  | .sl true 1 _ row :: l => match toBools row, toTo l with
    | some r, some m => some (r :: m)
    | _, _ => none
  | _ => none
@[simp] theorem toTs_RT (l : List (List Bool)) : toTs (RT l) = some l := by
  induction l with
  | nil => rfl
  | cons r l ih => simp only [RT, List.map_cons, toTs, toBools_map] at ih ⊢; rw [ih]
@[simp] theorem toTo_OT (l : List (List Bool)) : toTo (OT l) = some l := by
  induction l with
  | nil => rfl
  | cons r l ih => simp only [OT, List.map_cons, toTo, toBools_map] at ih ⊢; rw [ih]
/-! ### the table -/
structure Tbl where
  inn : List Bool
  adj : List (List Bool)
  mark : List Int
abbrev tbF (t : Tbl) : Cell Unit := .bx false () [.sl false 1 () (BL t.inn), .sl false 1 () (RT t.adj), .sl false 1 () (IL t.mark)]
abbrev tbO (t : Tbl) : Cell Unit := .bx true () [.sl true 1 () (BL t.inn), .sl true 1 () (OT t.adj), .sl true 1 () (IL t.mark)]
structure TbOk (n : Nat) (t : Tbl) : Prop where
  inn : t.inn.length = n
  adj : t.adj.length = n
  row : ∀ v, v < n → (nthT t.adj v).length = n
  mark : t.mark.length = n
def asTb : SV Unit → Option Tbl
  | ⟨.one, [.c (.bx false () [.sl false 1 () a, .sl false 1 () b, .sl false 1 () c])]⟩ => match toBools a, toTs b, toInts c with
    | some a, some b, some c => some ⟨a, b, c⟩
    | _, _, _ => none
  | _ => none
@[simp] theorem asTb_tb (t : Tbl) : asTb ⟨.one, [.c (tbF t)]⟩ = some t := by simp [asTb]
def asTbO : SV Unit → Option Tbl
  | ⟨.one, [.c (.bx true () [.sl true 1 () a, .sl true 1 () b, .sl true 1 () c])]⟩ => match toBools a, toTo b, toInts c with
    | some a, some b, some c => some ⟨a, b, c⟩
    | _, _, _ => none
  | _ => none
@[simp] theorem asTbO_tb (t : Tbl) : asTbO ⟨.one, [.c (tbO t)]⟩ = some t := by simp [asTbO]
@[simp] theorem undTb : Try.prog.underlying 105 = some (.struct #[⟨"In", 91, 0, false, "", "", 0⟩, ⟨"Adj", 103, 1, false, "", "", 24⟩, ⟨"Mark", 39, 2, false, "", "", 48⟩]) := by kernel_rfl
@[simp] theorem cellsTb : Try.prog.cellsOf 105 = 3 := by kernel_rfl
@[simp] theorem undTs : Try.prog.underlying 103 = some (.slice 91) := by kernel_rfl
@[simp] theorem cellsTs : Try.prog.cellsOf 103 = 1 := by kernel_rfl
end Go.Proofs.Ytnmocjhpbobahaa.L
namespace Go.Proofs.Ytnmocjhpbobahaa.L
open Go Go.RowKit
set_option maxRecDepth 100000
set_option maxHeartbeats 4000000
/-- Who of the first i is in, and a neighbour. -/
def nearT (t : Tbl) (v : Nat) : Nat → List Int
  | 0 => []
  | i + 1 => if nthB t.inn i = true ∧ nthB (nthT t.adj v) i = true then nearT t v i ++ [(i : Int)] else nearT t v i
theorem bT {l : List Bool} {i : Nat} (h : nthB l i = true) : nthB l i = true := h
theorem bF {l : List Bool} {i : Nat} (h : nthB l i = false) : nthB l i = false := h
attribute [local simp] bT bF
def TbHas (t : Tbl) (v : Nat) : Prop := ∃ n : Nat, TbOk n t ∧ n ≤ 1000000 ∧ v < n
noncomputable def specNearT : Spec := fun us => match us with
  | [x, y] => match asTb x, asInt y with
    | some t, some a => whenC (0 ≤ a ∧ TbHas t a.toNat) (ow (nearT t a.toNat t.inn.length))
    | _, _ => none
  | _ => none
@[simp] theorem sNearT {t : Tbl} {a : Nat} (h : TbHas t a) : specNearT [⟨.one, [.c (tbF t)]⟩, iv a] = some (ow (nearT t a t.inn.length)) := by
  unfold specNearT
  simp only [asTb_tb, asInt_iv]
  exact whenC_pos _ ⟨by omega, h⟩
@[simp] theorem callNearT {E : Env} {σ : St Unit} {t : Nat} {l : List Operand} : effCall Try.prog E ΩU σ t 59 l = callO E 59 t (argsOf Try.prog ΩU σ [70, 3] l) := eff_call Try.func59 Try.params59
end Go.Proofs.Ytnmocjhpbobahaa.L
namespace Go.Proofs.Ytnmocjhpbobahaa.L
open Go Go.RowKit
set_option maxRecDepth 100000
set_option maxHeartbeats 4000000
def cntT (t : Tbl) : Nat → Int
  | 0 => 0
  | i + 1 => if nthB t.inn i = true then cntT t i + 1 else cntT t i
attribute [local simp] bT bF
noncomputable def specCountT : Spec := fun us => match us with
  | [x] => match asTb x with
    | some t => whenC (TbOk t.inn.length t ∧ t.inn.length ≤ 1000000) (iv (cntT t t.inn.length))
    | _ => none
  | _ => none
def TbGood (t : Tbl) : Prop := TbOk t.inn.length t ∧ t.inn.length ≤ 1000000
@[simp] theorem sCountT {t : Tbl} (h : TbGood t) : specCountT [⟨.one, [.c (tbF t)]⟩] = some (iv (cntT t t.inn.length)) := by
  unfold specCountT
  simp only [asTb_tb]
  exact whenC_pos _ h
@[simp] theorem callCountT {E : Env} {σ : St Unit} {t : Nat} {l : List Operand} : effCall Try.prog E ΩU σ t 58 l = callO E 58 t (argsOf Try.prog ΩU σ [70] l) := eff_call Try.func58 Try.params58
/-! ### inner -/
def innT (t : Tbl) (v : Nat) : Bool := decide (nth t.mark v = 2 ∨ 3 < (nearT t v t.inn.length).length)
noncomputable def specInT : Spec := fun us => match us with
  | [x, y] => match asTb x, asInt y with
    | some t, some a => whenC (0 ≤ a ∧ TbHas t a.toNat) (bv (innT t a.toNat))
    | _, _ => none
  | _ => none
@[simp] theorem sInT {t : Tbl} {a : Nat} (h : TbHas t a) : specInT [⟨.one, [.c (tbF t)]⟩, iv a] = some (bv (innT t a)) := by
  unfold specInT
  simp only [asTb_tb, asInt_iv]
  exact whenC_pos _ ⟨by omega, h⟩
@[simp] theorem callInT {E : Env} {σ : St Unit} {t : Nat} {l : List Operand} : effCall Try.prog E ΩU σ t 77 l = callO E 77 t (argsOf Try.prog ΩU σ [70, 3] l) := eff_call Try.func77 Try.params77
end Go.Proofs.Ytnmocjhpbobahaa.L
namespace Go.Proofs.Ytnmocjhpbobahaa.L
open Go Go.RowKit
set_option maxRecDepth 100000
set_option maxHeartbeats 4000000
attribute [local simp] bT bF
/-- Has each of the first i that is in three neighbours? -/
def allT (t : Tbl) : Nat → Bool
  | 0 => true
  | i + 1 => allT t i && (!(nthB t.inn i) || decide ((nearT t i t.inn.length).length = 3))
def fourT (t : Tbl) : Bool := decide (cntT t t.inn.length = 4) && allT t t.inn.length
noncomputable def specFourT : Spec := fun us => match us with
  | [x] => match asTb x with
    | some t => whenC (TbGood t) (bv (fourT t))
    | _ => none
  | _ => none
@[simp] theorem sFourT {t : Tbl} (h : TbGood t) : specFourT [⟨.one, [.c (tbF t)]⟩] = some (bv (fourT t)) := by
  unfold specFourT
  simp only [asTb_tb]
  exact whenC_pos _ h
@[simp] theorem callFourT {E : Env} {σ : St Unit} {t : Nat} {l : List Operand} : effCall Try.prog E ΩU σ t 34 l = callO E 34 t (argsOf Try.prog ΩU σ [70] l) := eff_call Try.func34 Try.params34
/-! ### Fits -/
def mkT (t : Tbl) (m : Int) : Nat → Int
  | 0 => 0
  | i + 1 => if nthB t.inn i = true ∧ nth t.mark i = m then mkT t m i + 1 else mkT t m i
def fitT (t : Tbl) : Bool := decide (mkT t 2 t.inn.length ≤ 1 ∧ mkT t 1 t.inn.length ≤ 3)
noncomputable def specFitT : Spec := fun us => match us with
  | [x] => match asTb x with
    | some t => whenC (TbGood t) (bv (fitT t))
    | _ => none
  | _ => none
@[simp] theorem sFitT {t : Tbl} (h : TbGood t) : specFitT [⟨.one, [.c (tbF t)]⟩] = some (bv (fitT t)) := by
  unfold specFitT
  simp only [asTb_tb]
  exact whenC_pos _ h
@[simp] theorem callFitT {E : Env} {σ : St Unit} {t : Nat} {l : List Operand} : effCall Try.prog E ΩU σ t 35 l = callO E 35 t (argsOf Try.prog ΩU σ [70] l) := eff_call Try.func35 Try.params35
end Go.Proofs.Ytnmocjhpbobahaa.L
