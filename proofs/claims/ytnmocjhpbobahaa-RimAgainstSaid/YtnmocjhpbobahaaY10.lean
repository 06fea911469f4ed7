/- S10: a slice that shows something against nil. S11: int to uint and back; half. S12: loops of few rounds; rows of truth values; arrays of three. CL: rows of cuts (six numbers each), traces, states. -/
import Derived.Test.YtnmocjhpbobahaaY9
set_option linter.unusedVariables false
set_option linter.unusedSimpArgs false
set_option linter.unnecessarySimpa false
namespace Go.Proofs.Ytnmocjhpbobahaa.L
open Go Go.RowKit
def ifSome {α β : Type} : Option α → Option β → Option β
  | some _, z => z
  | none, _ => none
@[simp] theorem ifSome_none {α β : Type} (z : Option β) : ifSome (none : Option α) z = none := rfl
@[simp] theorem eff_nileq (P : Program) (x : Nat × SV Unit) (σ : St Unit) (t s : Nat) (d : Option Nat) (op : BinOp) (ty yt rt : TypeId) (pos : String) (af : Array Edge) (g : Option (Nat × Bool)) :
    effPure P (x :: σ) t ⟨d, .binOp op ty (.tmp s) (.const (.slice none 0 0)) yt, rt, pos, af, g⟩ = ifSome (valOf (x :: σ) (.tmp s)) (effZ P (x :: σ) t ⟨d, .binOp op ty (.tmp s) (.const (.slice none 0 0)) yt, rt, pos, af, g⟩) := by
  cases h : valOf (x :: σ) (.tmp s) with
  | some v => rfl
  | none =>
    unfold effPure
    rw [if_neg]
    · rfl
    · intro hc
      simp only [Bool.and_eq_true, List.all_eq_true] at hc
      have := hc.2 (.tmp s) (List.mem_cons_self)
      rw [h] at this
      cases this
attribute [simp] effNilCmp
@[simp] theorem eff_fieldp (P : Program) (x : Nat × SV Unit) (σ : St Unit) (t s f : Nat) (d : Option Nat) (ty rt : TypeId) (pos : String) (af : Array Edge) (g : Option (Nat × Bool)) :
    effPure P (x :: σ) t ⟨d, .field ty (.tmp s) f, rt, pos, af, g⟩ = ifSome (valOf (x :: σ) (.tmp s)) (effZ P (x :: σ) t ⟨d, .field ty (.tmp s) f, rt, pos, af, g⟩) := by
  cases h : valOf (x :: σ) (.tmp s) with
  | some v => rfl
  | none =>
    unfold effPure
    rw [if_neg]
    · rfl
    · intro hc
      simp only [Bool.and_eq_true, List.all_eq_true] at hc
      have := hc.2 (.tmp s) (List.mem_cons_self)
      rw [h] at this
      cases this
attribute [simp] effField
/-! ### a call whose first argument is a nil that is written -/
def callNilO (E : Env) (f t : Nat) : Option (List (SV Unit)) → Option (Eff Unit)
  | some l => resO t (E f (nilMark :: l))
  | none => none
@[simp] theorem callNilO_some (E : Env) (f t : Nat) (l : List (SV Unit)) : callNilO E f t (some l) = resO t (E f (nilMark :: l)) := rfl
theorem eff_callNil {E : Env} {σ : St Unit} {t : Nat} {f : FuncId} {fn : Func} {ts : Array TypeId} {args : List Operand} (hf : Try.prog.funcs[f]? = some fn) (hp : fn.params = ts) : effCallNil Try.prog E ΩU σ t f (.const (.slice none 0 0) :: args) = callNilO E f t (argsOf Try.prog ΩU σ ts.toList.tail args) := by
  simp only [effCallNil, hf, hp]
  cases argsOf Try.prog ΩU σ ts.toList.tail args with
  | none => rfl
  | some l => simp only [callNilO]; cases E f (nilMark :: l) <;> rfl
@[simp] theorem effLend_const (P : Program) (E : Env) (Ω : Orc Unit) (σ : St Unit) (t f : Nat) (v : Value) (args : List Operand) : effLend P E Ω σ t f (.const v :: args) = none := by
  unfold effLend
  split <;> first | rfl | simp_all
@[simp] theorem resO_none (t : Nat) : resO t none = none := rfl
end Go.Proofs.Ytnmocjhpbobahaa.L
namespace Go.Proofs.Ytnmocjhpbobahaa.L
open Go Go.RowKit
def int1 (k : IntKind) (u : Option Value) (f : Int → SV Unit) (t : Nat) (z : Option (Eff Unit)) : Option (Eff Unit) := match u with
  | some (.int k' a) => if k' = k then some (effP t (f a)) else z
  | _ => z
@[simp] theorem int1_i (a : Int) (k : IntKind) (f : Int → SV Unit) (t : Nat) (z : Option (Eff Unit)) : int1 k (some (.int k a)) f t z = some (effP t (f a)) := by simp [int1]
abbrev uv (n : Int) : SV Unit := ⟨.one, [.c (.sc (.int .u64 n))]⟩
section
variable {σ : St Unit} {t : Nat} {x : Operand} {d : Option Nat} {ty : TypeId} {pos : String} {af : Array Edge} {g : Option (Nat × Bool)}
theorem sem_toU {ρ : Operand → Value} {a : Int} (hx : ρ x = .int .i64 a) : pv Try.prog (execOp ρ ⟨d, .convert 3 116 x, ty, pos, af, g⟩) = some (.value (.int .u64 (IntKind.u64.wrap a))) := by
  simp only [execOp, hx]; kernel_rfl
theorem sem_ofU {ρ : Operand → Value} {a : Int} (hx : ρ x = .int .u64 a) : pv Try.prog (execOp ρ ⟨d, .convert 116 3 x, ty, pos, af, g⟩) = some (.value (.int .i64 (IntKind.i64.wrap a))) := by
  simp only [execOp, hx]; kernel_rfl
theorem sem_half {ρ : Operand → Value} {a : Int} (hx : ρ x = .int .u64 a) (hy : ρ (.const (.int .u64 1)) = .int .u64 1) : pv Try.prog (execOp ρ ⟨d, .binOp .shr 116 x (.const (.int .u64 1)) 116, ty, pos, af, g⟩) = some (.value (.int .u64 (a.fdiv 2))) := by
  simp only [execOp, hx, hy]; kernel_rfl
@[simp] theorem eff_toU : effPure Try.prog σ t ⟨d, .convert 3 116 x, ty, pos, af, g⟩ = int1 .i64 (valOf σ x) (fun a => uv (IntKind.u64.wrap a)) t (effZ Try.prog σ t ⟨d, .convert 3 116 x, ty, pos, af, g⟩) := by
  unfold int1
  split
  · next k a hx =>
    split
    · next hk =>
      subst hk
      unfold effPure
      rw [if_pos (by simp [pureOp, Op.operands, hx, -valOf]), sem_toU (a := a) (by rw [hx]; rfl)]
      rfl
    · rfl
  · rfl
@[simp] theorem eff_ofU : effPure Try.prog σ t ⟨d, .convert 116 3 x, ty, pos, af, g⟩ = int1 .u64 (valOf σ x) (fun a => iv (IntKind.i64.wrap a)) t (effZ Try.prog σ t ⟨d, .convert 116 3 x, ty, pos, af, g⟩) := by
  unfold int1
  split
  · next k a hx =>
    split
    · next hk =>
      subst hk
      unfold effPure
      rw [if_pos (by simp [pureOp, Op.operands, hx, -valOf]), sem_ofU (a := a) (by rw [hx]; rfl)]
      rfl
    · rfl
  · rfl
@[simp] theorem eff_half : effPure Try.prog σ t ⟨d, .binOp .shr 116 x (.const (.int .u64 1)) 116, ty, pos, af, g⟩ = int1 .u64 (valOf σ x) (fun a => uv (a.fdiv 2)) t (effZ Try.prog σ t ⟨d, .binOp .shr 116 x (.const (.int .u64 1)) 116, ty, pos, af, g⟩) := by
  unfold int1
  split
  · next k a hx =>
    split
    · next hk =>
      subst hk
      unfold effPure
      have hc : valOf σ (.const (.int .u64 1)) = some (.int .u64 1) := rfl
      rw [if_pos (by simp [pureOp, Op.operands, hx, hc, -valOf]), sem_half (a := a) (by rw [hx]; rfl) (by rw [hc]; rfl)]
      rfl
    · rfl
  · rfl
end
@[simp] theorem u64_add (i j : Nat) (h : i + j < 9223372036854775808) : IntKind.u64.wrap ((i : Int) + j) = (i : Int) + j := by simp [IntKind.wrap, IntKind.bits, IntKind.signed]; omega
/-- Half (closed to simp). -/
def halfN (i j : Nat) : Nat := (i + j) / 2
theorem halfN_lt {i j : Nat} (h : i < j) : i ≤ halfN i j ∧ halfN i j < j := by unfold halfN; omega
@[simp] theorem half_add (i j : Nat) : ((i : Int) + j).fdiv 2 = ((halfN i j : Nat) : Int) := by rw [Int.fdiv_eq_ediv_of_nonneg _ (by omega)]; unfold halfN; omega
end Go.Proofs.Ytnmocjhpbobahaa.L
namespace Go.Proofs.Ytnmocjhpbobahaa.L
open Go Go.RowKit
set_option maxRecDepth 100000
/-- One round of a loop; what comes behind it. -/
def roundR (reg : Reg) (a : Code) (Q : Ex → St Unit → Prop) : Ex → St Unit → Prop
  | .normal, σ => RP reg (.loop a) σ Q
  | e, σ => Q e σ
theorem rp_round {reg : Reg} {a : Code} {σ : St Unit} {Q : Ex → St Unit → Prop} (h : RP reg a σ (roundR reg a Q)) : RP reg (.loop a) σ Q := by
  obtain ⟨n, e, σ1, h1, h2⟩ := h
  cases e with
  | normal =>
    obtain ⟨m, e', σ2, h3, h4⟩ := h2
    refine ⟨n + m + 1, e', σ2, ?_, h4⟩
    simp only [run, run_mono n (n + m) a σ _ h1 (by omega)]
    exact run_mono m (n + m) _ σ1 _ h3 (by omega)
  | exit i => exact ⟨n + 1, _, σ1, by simp only [run, h1], h2⟩
  | goto l => exact ⟨n + 1, _, σ1, by simp only [run, h1], h2⟩
  | ret => exact ⟨n + 1, _, σ1, by simp only [run, h1], h2⟩
/-! ### rows of truth values -/
def B (b : Bool) : Cell Unit := .sc (.bool b)
def BL (l : List Bool) : List (Cell Unit) := l.map B
def nthB (l : List Bool) (i : Nat) : Bool := l.getD i false
@[simp] theorem BL_nil : BL [] = [] := rfl
@[simp] theorem BL_length (l : List Bool) : (BL l).length = l.length := by simp [BL]
@[simp] theorem BL_copy (l : List Bool) : (BL l).all Cell.copyable = true := by induction l <;> simp_all [BL, B, Cell.copyable]
@[simp] theorem BL_mem_copy (l : List Bool) : (∀ x : Cell Unit, x ∈ BL l → x.copyable = true) = True := eq_true (fun x hx => List.all_eq_true.1 (BL_copy l) x hx)
@[simp] theorem BL_mem_alive (l : List Bool) : (∀ x : Cell Unit, x ∈ BL l → x.isDead = false) = True := eq_true (fun x hx => by simp only [BL, List.mem_map] at hx; obtain ⟨b, _, rfl⟩ := hx; rfl)
@[simp] theorem BL_nth (l : List Bool) (k : Nat) (h : k < l.length) : ((BL l).drop k).take 1 = [.sc (.bool (nthB l k))] := by
  rw [BL, ← List.map_drop, ← List.map_take]
  have : List.take 1 (List.drop k l) = [l[k]] := by rw [List.drop_eq_getElem_cons h]; rfl
  rw [this]
  simp [B, nthB, h]
@[simp] theorem BL_set (l : List Bool) (k : Nat) (b : Bool) : (BL l).set k (.sc (.bool b)) = BL (l.set k b) := by simp [BL, B]
@[simp] theorem BL_app1 (l : List Bool) (b : Bool) : BL l ++ [.sc (.bool b)] = BL (l ++ [b]) := by simp [BL, B]
@[simp] theorem freezeL_BL : ∀ l : List Bool, freezeL (BL l) = BL l
  | [] => rfl
  | n :: l => by have := freezeL_BL l; simp only [BL, B, List.map_cons, freezeL, Cell.freeze] at this ⊢; rw [this]
@[simp] theorem allOwn_BL : ∀ l : List Bool, allOwnL (BL l) = true
  | [] => rfl
  | n :: l => by have := allOwn_BL l; simp only [BL, B, List.map_cons, allOwnL, Cell.allOwn] at this ⊢; rw [this]; rfl
@[simp] theorem seen_BL (r : Nat) (p : List Nat) : ∀ (l : List Bool) (off : Nat), seen r p off (BL l) = some ((BL l).map SC.c)
  | [], _ => rfl
  | x :: l, off => by
    have := seen_BL r p l (off + 1)
    simp only [BL, B, List.map_cons, seen] at this ⊢
    rw [this]
    rfl
@[simp] theorem BL_flat (n : Nat) : (List.replicate n [(.sc (.bool false) : Cell Unit)]).flatten = BL (List.replicate n false) := by
  induction n with
  | zero => rfl
  | succ n ih => simp only [List.replicate_succ, List.flatten_cons, ih]; rfl
def toBools : List (Cell Unit) → Option (List Bool)
  | [] => some []
  | c :: l => match c, toBools l with
    | .sc (.bool n), some m => some (n :: m)
    | _, _ => none
@[simp] theorem toBools_map (l : List Bool) : toBools (BL l) = some l := by
  induction l with
  | nil => rfl
  | cons x l ih => simp only [BL, B, List.map_cons, toBools] at ih ⊢; rw [ih]
theorem toBools_eq : ∀ {row : List (Cell Unit)} {l : List Bool}, toBools row = some l → row = BL l
  | [], l, h => by simp only [toBools, Option.some.injEq] at h; subst h; rfl
  | c :: row, l, h => by
    simp only [toBools] at h
    split at h
    · next n m _ hm => simp only [Option.some.injEq] at h; subst h; rw [toBools_eq hm]; rfl
    · cases h
/-! ### arrays of three numbers -/
abbrev a3 (a b c : Int) : SV Unit := ⟨.agg, [.c (.sc (.int .i64 a)), .c (.sc (.int .i64 b)), .c (.sc (.int .i64 c))]⟩
abbrev a3x (a b c : Int) : SV Unit := ⟨.one, [.c (.bx true () [.sc (.int .i64 a), .sc (.int .i64 b), .sc (.int .i64 c)])]⟩
def asA3 : SV Unit → Option (Int × Int × Int)
  | ⟨.agg, [.c (.sc (.int .i64 a)), .c (.sc (.int .i64 b)), .c (.sc (.int .i64 c))]⟩ => some (a, b, c)
  | _ => none
@[simp] theorem asA3_a3 (a b c : Int) : asA3 (a3 a b c) = some (a, b, c) := rfl
theorem asA3_eq {v : SV Unit} {x : Int × Int × Int} (h : asA3 v = some x) : v = a3 x.1 x.2.1 x.2.2 := by
  unfold asA3 at h
  split at h
  · simp only [Option.some.injEq] at h; subst h; rfl
  · cases h
end Go.Proofs.Ytnmocjhpbobahaa.L
namespace Go.Proofs.Ytnmocjhpbobahaa.L
open Go Go.RowKit
set_option maxRecDepth 100000
abbrev Cu := Int × Int × Int × Int × Int × Int
def CL : List Cu → List (Cell Unit)
  | [] => []
  | e :: l => .sc (.int .i64 e.1) :: .sc (.int .i64 e.2.1) :: .sc (.int .i64 e.2.2.1) :: .sc (.int .i64 e.2.2.2.1) :: .sc (.int .i64 e.2.2.2.2.1) :: .sc (.int .i64 e.2.2.2.2.2) :: CL l
def cuAt (l : List Cu) (i : Nat) : Cu := l.getD i (0, 0, 0, 0, 0, 0)
theorem cuAt_eq {l : List Cu} {i : Nat} (h : i < l.length) : cuAt l i = l[i] := by simp [cuAt, h]
@[simp] theorem CL_nil : CL [] = [] := rfl
@[simp] theorem CL_length (l : List Cu) : (CL l).length = l.length * 6 := by
  induction l with
  | nil => rfl
  | cons e l ih => simp only [CL, List.length_cons, ih]; omega
theorem CL_mem (l : List Cu) : ∀ x ∈ CL l, ∃ n, x = .sc (.int .i64 n) := by
  induction l with
  | nil => simp [CL]
  | cons e l ih =>
    intro x hx
    simp only [CL, List.mem_cons] at hx
    rcases hx with rfl | rfl | rfl | rfl | rfl | rfl | hx
    · exact ⟨_, rfl⟩
    · exact ⟨_, rfl⟩
    · exact ⟨_, rfl⟩
    · exact ⟨_, rfl⟩
    · exact ⟨_, rfl⟩
    · exact ⟨_, rfl⟩
    · exact ih x hx
@[simp] theorem CL_copy (l : List Cu) : (CL l).all Cell.copyable = true := by
  rw [List.all_eq_true]; intro x hx; obtain ⟨n, rfl⟩ := CL_mem l x hx; rfl
@[simp] theorem CL_mem_copy (l : List Cu) : (∀ x : Cell Unit, x ∈ CL l → x.copyable = true) = True := eq_true (fun x hx => by obtain ⟨n, rfl⟩ := CL_mem l x hx; rfl)
@[simp] theorem CL_mem_alive (l : List Cu) : (∀ x : Cell Unit, x ∈ CL l → x.isDead = false) = True := eq_true (fun x hx => by obtain ⟨n, rfl⟩ := CL_mem l x hx; rfl)
theorem CL_drop (l : List Cu) : ∀ i, (CL l).drop (i * 6) = CL (l.drop i) := by
  induction l with
  | nil => intro i; simp [CL]
  | cons e l ih =>
    intro i
    cases i with
    | zero => simp
    | succ i => rw [show (i + 1) * 6 = i * 6 + 1 + 1 + 1 + 1 + 1 + 1 by omega]; simp only [CL, List.drop_succ_cons]; exact ih i
@[simp] theorem CL_six (l : List Cu) (i : Nat) (h : i < l.length) : ((CL l).drop (i * 6)).take 6 = [.sc (.int .i64 ((cuAt l i).1)), .sc (.int .i64 ((cuAt l i).2.1)), .sc (.int .i64 ((cuAt l i).2.2.1)), .sc (.int .i64 ((cuAt l i).2.2.2.1)), .sc (.int .i64 ((cuAt l i).2.2.2.2.1)), .sc (.int .i64 ((cuAt l i).2.2.2.2.2))] := by
  rw [CL_drop, List.drop_eq_getElem_cons h]
  simp [CL, cuAt, h]
@[simp] theorem CL_take (l : List Cu) (k : Nat) : (CL l).take (k * 6) = CL (l.take k) := by
  induction l generalizing k with
  | nil => simp [CL]
  | cons e l ih =>
    cases k with
    | zero => simp [CL]
    | succ k => rw [show (k + 1) * 6 = k * 6 + 1 + 1 + 1 + 1 + 1 + 1 by omega]; simp only [CL, List.take_succ_cons, ih]
@[simp] theorem freezeL_CL : ∀ l : List Cu, freezeL (CL l) = CL l
  | [] => rfl
  | n :: l => by have := freezeL_CL l; simp only [CL, freezeL, Cell.freeze] at this ⊢; rw [this]
@[simp] theorem allOwn_CL : ∀ l : List Cu, allOwnL (CL l) = true
  | [] => rfl
  | n :: l => by have := allOwn_CL l; simp only [CL, allOwnL, Cell.allOwn] at this ⊢; rw [this]; rfl
theorem CL_app (l m : List Cu) : CL l ++ CL m = CL (l ++ m) := by
  induction l with
  | nil => rfl
  | cons e l ih => simp only [CL, List.cons_append, ih]
@[simp] theorem CL_app1 (l : List Cu) (a b c d e f : Int) : CL l ++ [.sc (.int .i64 a), .sc (.int .i64 b), .sc (.int .i64 c), .sc (.int .i64 d), .sc (.int .i64 e), .sc (.int .i64 f)] = CL (l ++ [(a, b, c, d, e, f)]) := by rw [← CL_app]; rfl
theorem cuAt_take {l : List Cu} {i : Nat} (h : i < l.length) : l.take (i + 1) = l.take i ++ [cuAt l i] := by
  rw [List.take_succ_eq_append_getElem h, cuAt_eq h]
/-! ### the types -/
@[simp] theorem rim_undC : Try.prog.underlying 59 = some (.struct #[⟨"A", 3, 0, false, "", "", 0⟩, ⟨"B", 3, 1, false, "", "", 8⟩, ⟨"C", 3, 2, false, "", "", 16⟩, ⟨"P", 3, 3, false, "", "", 24⟩, ⟨"Q", 3, 4, false, "", "", 32⟩, ⟨"R", 3, 5, false, "", "", 40⟩]) := by kernel_rfl
@[simp] theorem rim_cellsC : Try.prog.cellsOf 59 = 6 := by kernel_rfl
@[simp] theorem rim_bytesC : Try.prog.bytesOf 59 = 48 := by kernel_rfl
@[simp] theorem rim_zokC : zeroOk Try.prog 59 = true := by kernel_rfl
@[simp] theorem rim_zeroC : zeroCellsOf Try.prog () 59 = some [.sc (.int .i64 0), .sc (.int .i64 0), .sc (.int .i64 0), .sc (.int .i64 0), .sc (.int .i64 0), .sc (.int .i64 0)] := by kernel_rfl
@[simp] theorem rim_infosC : infosOk Try.prog 59 = true := by kernel_rfl
@[simp] theorem rim_undS : Try.prog.underlying 33 = some (.slice 59) := by kernel_rfl
@[simp] theorem rim_cellsS : Try.prog.cellsOf 33 = 1 := by kernel_rfl
@[simp] theorem rim_zeroS : zeroCellsOf Try.prog () 33 = some [.sl true 6 () []] := by kernel_rfl
@[simp] theorem rim_undT : Try.prog.underlying 35 = some (.struct #[⟨"End", 3, 0, false, "", "", 0⟩, ⟨"Cuts", 33, 1, false, "", "", 8⟩]) := by kernel_rfl
@[simp] theorem rim_cellsT : Try.prog.cellsOf 35 = 2 := by kernel_rfl
@[simp] theorem rim_zeroT : zeroCellsOf Try.prog () 35 = some [.sc (.int .i64 0), .sl true 6 () []] := by kernel_rfl
@[simp] theorem rim_infosT : infosOk Try.prog 35 = true := by kernel_rfl
@[simp] theorem rim_undZ : Try.prog.underlying 41 = some (.struct #[⟨"Left", 39, 0, false, "", "", 0⟩, ⟨"Edges", 22, 1, false, "", "", 24⟩, ⟨"Marks", 39, 2, false, "", "", 48⟩]) := by kernel_rfl
@[simp] theorem rim_cellsZ : Try.prog.cellsOf 41 = 3 := by kernel_rfl
@[simp] theorem rim_zeroZ : zeroCellsOf Try.prog () 41 = some [.sl true 1 () [], .sl true 2 () [], .sl true 1 () []] := by kernel_rfl
@[simp] theorem rim_infosZ : infosOk Try.prog 41 = true := by kernel_rfl
@[simp] theorem ref20_undC : Try.prog.underlying 62 = some (.struct #[⟨"A", 3, 0, false, "", "", 0⟩, ⟨"B", 3, 1, false, "", "", 8⟩, ⟨"C", 3, 2, false, "", "", 16⟩, ⟨"P", 3, 3, false, "", "", 24⟩, ⟨"Q", 3, 4, false, "", "", 32⟩, ⟨"R", 3, 5, false, "", "", 40⟩]) := by kernel_rfl
@[simp] theorem ref20_cellsC : Try.prog.cellsOf 62 = 6 := by kernel_rfl
@[simp] theorem ref20_bytesC : Try.prog.bytesOf 62 = 48 := by kernel_rfl
@[simp] theorem ref20_zokC : zeroOk Try.prog 62 = true := by kernel_rfl
@[simp] theorem ref20_zeroC : zeroCellsOf Try.prog () 62 = some [.sc (.int .i64 0), .sc (.int .i64 0), .sc (.int .i64 0), .sc (.int .i64 0), .sc (.int .i64 0), .sc (.int .i64 0)] := by kernel_rfl
@[simp] theorem ref20_infosC : infosOk Try.prog 62 = true := by kernel_rfl
@[simp] theorem ref20_undS : Try.prog.underlying 29 = some (.slice 62) := by kernel_rfl
@[simp] theorem ref20_cellsS : Try.prog.cellsOf 29 = 1 := by kernel_rfl
@[simp] theorem ref20_zeroS : zeroCellsOf Try.prog () 29 = some [.sl true 6 () []] := by kernel_rfl
@[simp] theorem ref20_undT : Try.prog.underlying 31 = some (.struct #[⟨"End", 3, 0, false, "", "", 0⟩, ⟨"Cuts", 29, 1, false, "", "", 8⟩]) := by kernel_rfl
@[simp] theorem ref20_cellsT : Try.prog.cellsOf 31 = 2 := by kernel_rfl
@[simp] theorem ref20_zeroT : zeroCellsOf Try.prog () 31 = some [.sc (.int .i64 0), .sl true 6 () []] := by kernel_rfl
@[simp] theorem ref20_infosT : infosOk Try.prog 31 = true := by kernel_rfl
@[simp] theorem ref20_undZ : Try.prog.underlying 45 = some (.struct #[⟨"Left", 39, 0, false, "", "", 0⟩, ⟨"Edges", 22, 1, false, "", "", 24⟩, ⟨"Marks", 39, 2, false, "", "", 48⟩]) := by kernel_rfl
@[simp] theorem ref20_cellsZ : Try.prog.cellsOf 45 = 3 := by kernel_rfl
@[simp] theorem ref20_zeroZ : zeroCellsOf Try.prog () 45 = some [.sl true 1 () [], .sl true 2 () [], .sl true 1 () []] := by kernel_rfl
@[simp] theorem ref20_infosZ : infosOk Try.prog 45 = true := by kernel_rfl
@[simp] theorem kdLen_s (n : Nat) : kdLen (some n) = n := rfl
@[simp] theorem kdLen_n : kdLen none = 1 := rfl
@[simp] theorem kdKd_s (n : Nat) : kdKd (some n) = .agg := rfl
@[simp] theorem kdKd_n : kdKd none = .one := rfl
/-- A trace: frozen, owned; in a box. -/
abbrev tr (n : Int) (l : List Cu) : SV Unit := ⟨.agg, [.c (.sc (.int .i64 n)), .c (.sl false 6 () (CL l))]⟩
abbrev tro (n : Int) (l : List Cu) : SV Unit := ⟨.agg, [.c (.sc (.int .i64 n)), .c (.sl true 6 () (CL l))]⟩
abbrev trbx (n : Int) (l : List Cu) : SV Unit := ⟨.one, [.c (.bx true () [.sc (.int .i64 n), .sl false 6 () (CL l)])]⟩
abbrev trobx (n : Int) (l : List Cu) : SV Unit := ⟨.one, [.c (.bx true () [.sc (.int .i64 n), .sl true 6 () (CL l)])]⟩
abbrev cuts (l : List Cu) : SV Unit := ⟨.one, [.c (.sl false 6 () (CL l))]⟩
def toCuts : List (Cell Unit) → Option (List Cu)
  | [] => some []
  | .sc (.int .i64 a) :: .sc (.int .i64 b) :: .sc (.int .i64 c) :: .sc (.int .i64 d) :: .sc (.int .i64 e) :: .sc (.int .i64 f) :: l => match toCuts l with
    | some m => some ((a, b, c, d, e, f) :: m)
    | none => none
  | _ => none
@[simp] theorem toCuts_CL (l : List Cu) : toCuts (CL l) = some l := by
  induction l with
  | nil => rfl
  | cons x l ih => simp only [CL, toCuts, ih]
theorem toCuts_eq : ∀ {row : List (Cell Unit)} {l : List Cu}, toCuts row = some l → row = CL l := by
  intro row
  induction row using toCuts.induct with
  | case1 => intro l h; simp only [toCuts, Option.some.injEq] at h; subst h; rfl
  | case2 a b c d e f l m hm ih => intro l' h; simp only [toCuts, hm, Option.some.injEq] at h; subst h; rw [ih hm]; rfl
  | case3 a b c d e f l hm ih => intro l' h; simp only [toCuts, hm] at h; cases h
  | case4 r h1 h2 =>
    intro l' h
    unfold toCuts at h
    split at h
    all_goals first | exact (h1 rfl).elim | exact (h2 _ _ _ _ _ _ _ rfl).elim | cases h
def asTr : SV Unit → Option (Int × List Cu)
  | ⟨.agg, [.c (.sc (.int .i64 n)), .c (.sl false 6 () row)]⟩ => match toCuts row with
    | some l => some (n, l)
    | none => none
  | _ => none
@[simp] theorem asTr_tr (n : Int) (l : List Cu) : asTr (tr n l) = some (n, l) := by simp [asTr]
theorem asTr_eq {v : SV Unit} {x : Int × List Cu} (h : asTr v = some x) : v = tr x.1 x.2 := by
  unfold asTr at h
  split at h
  · next n row =>
    split at h
    · next l hl => simp only [Option.some.injEq] at h; subst h; rw [toCuts_eq hl]
    · cases h
  · cases h
def asCuts : SV Unit → Option (List Cu)
  | ⟨.one, [.c (.sl false 6 () row)]⟩ => toCuts row
  | _ => none
@[simp] theorem asCuts_cuts (l : List Cu) : asCuts (cuts l) = some l := toCuts_CL l
theorem asCuts_eq {v : SV Unit} {l : List Cu} (h : asCuts v = some l) : v = cuts l := by
  unfold asCuts at h
  split at h
  · rw [toCuts_eq h]
  · cases h
end Go.Proofs.Ytnmocjhpbobahaa.L
