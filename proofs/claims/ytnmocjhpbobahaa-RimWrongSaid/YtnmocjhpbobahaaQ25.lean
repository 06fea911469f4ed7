/- CL: rows of cuts (six numbers each), traces, states. -/
import Derived.Test.YtnmocjhpbobahaaQ18
set_option linter.unusedVariables false
set_option linter.unusedSimpArgs false
set_option linter.unnecessarySimpa false
namespace Go.Proofs.Ytnmocjhpbobahaa.L
open Go Go.RowKit
set_option maxRecDepth 100000
abbrev Cu := Int × Int × Int × Int × Int × Int
def CL : List Cu → List (Cell Unit)
  | [] => []
  | e :: l => .sc (.int .i64 e.1) :: .sc (.int .i64 e.2.1) :: .sc (.int .i64 e.2.2.1) :: .sc (.int .i64 e.2.2.2.1) :: .sc (.int .i64 e.2.2.2.2.1) :: .sc (.int .i64 e.2.2.2.2.2) :: CL l
def cuAt (l : List Cu) (i : Nat) : Cu := l.getD i (0, 0, 0, 0, 0, 0)
theorem cuAt_eq {l : List Cu} {i : Nat} (h : i < l.length) : cuAt l i = l[i] := by simp [cuAt, h]
@[simp] theorem CL_nil : CL [] = [] := rfl
@[simp] theorem CL_length (l : List Cu) : (CL l).length = l.length * 6 := by
  induction l with
  | nil => rfl
  | cons e l ih => simp only [CL, List.length_cons, ih]; omega
theorem CL_mem (l : List Cu) : ∀ x ∈ CL l, ∃ n, x = .sc (.int .i64 n) := by
  induction l with
  | nil => simp [CL]
  | cons e l ih =>
    intro x hx
    simp only [CL, List.mem_cons] at hx
    rcases hx with rfl | rfl | rfl | rfl | rfl | rfl | hx
    · exact ⟨_, rfl⟩
    · exact ⟨_, rfl⟩
    · exact ⟨_, rfl⟩
    · exact ⟨_, rfl⟩
    · exact ⟨_, rfl⟩
    · exact ⟨_, rfl⟩
    · exact ih x hx
@[simp] theorem CL_copy (l : List Cu) : (CL l).all Cell.copyable = true := by
  rw [List.all_eq_true]; intro x hx; obtain ⟨n, rfl⟩ := CL_mem l x hx; rfl
@[simp] theorem CL_mem_copy (l : List Cu) : (∀ x : Cell Unit, x ∈ CL l → x.copyable = true) = True := eq_true (fun x hx => by obtain ⟨n, rfl⟩ := CL_mem l x hx; rfl)
@[simp] theorem CL_mem_alive (l : List Cu) : (∀ x : Cell Unit, x ∈ CL l → x.isDead = false) = True := eq_true (fun x hx => by obtain ⟨n, rfl⟩ := CL_mem l x hx; rfl)
theorem CL_drop (l : List Cu) : ∀ i, (CL l).drop (i * 6) = CL (l.drop i) := by
  induction l with
  | nil => intro i; simp [CL]
  | cons e l ih =>
    intro i
    cases i with
    | zero => simp
    | succ i => rw [show (i + 1) * 6 = i * 6 + 1 + 1 + 1 + 1 + 1 + 1 by omega]; simp only [CL, List.drop_succ_cons]; exact ih i
@[simp] theorem CL_six (l : List Cu) (i : Nat) (h : i < l.length) : ((CL l).drop (i * 6)).take 6 = [.sc (.int .i64 ((cuAt l i).1)), .sc (.int .i64 ((cuAt l i).2.1)), .sc (.int .i64 ((cuAt l i).2.2.1)), .sc (.int .i64 ((cuAt l i).2.2.2.1)), .sc (.int .i64 ((cuAt l i).2.2.2.2.1)), .sc (.int .i64 ((cuAt l i).2.2.2.2.2))] := by
  rw [CL_drop, List.drop_eq_getElem_cons h]
  simp [CL, cuAt, h]
@[simp] theorem CL_take (l : List Cu) (k : Nat) : (CL l).take (k * 6) = CL (l.take k) := by
  induction l generalizing k with
  | nil => simp [CL]
  | cons e l ih =>
    cases k with
    | zero => simp [CL]
    | succ k => rw [show (k + 1) * 6 = k * 6 + 1 + 1 + 1 + 1 + 1 + 1 by omega]; simp only [CL, List.take_succ_cons, ih]
@[simp] theorem freezeL_CL : ∀ l : List Cu, freezeL (CL l) = CL l
  | [] => rfl
  | n :: l => by have := freezeL_CL l; simp only [CL, freezeL, Cell.freeze] at this ⊢; rw [this]
@[simp] theorem allOwn_CL : ∀ l : List Cu, allOwnL (CL l) = true
  | [] => rfl
  | n :: l => by have := allOwn_CL l; simp only [CL, allOwnL, Cell.allOwn] at this ⊢; rw [this]; rfl
theorem CL_app (l m : List Cu) : CL l ++ CL m = CL (l ++ m) := by
  induction l with
  | nil => rfl
  | cons e l ih => simp only [CL, List.cons_append, ih]
@[simp] theorem CL_app1 (l : List Cu) (a b c d e f : Int) : CL l ++ [.sc (.int .i64 a), .sc (.int .i64 b), .sc (.int .i64 c), .sc (.int .i64 d), .sc (.int .i64 e), .sc (.int .i64 f)] = CL (l ++ [(a, b, c, d, e, f)]) := by rw [← CL_app]; rfl
theorem cuAt_take {l : List Cu} {i : Nat} (h : i < l.length) : l.take (i + 1) = l.take i ++ [cuAt l i] := by
  rw [List.take_succ_eq_append_getElem h, cuAt_eq h]
/-! ### the types -/
@[simp] theorem rim_undC : Try.prog.underlying 59 = some (.struct #[⟨"A", 3, 0, false, "", "", 0⟩, ⟨"B", 3, 1, false, "", "", 8⟩, ⟨"C", 3, 2, false, "", "", 16⟩, ⟨"P", 3, 3, false, "", "", 24⟩, ⟨"Q", 3, 4, false, "", "", 32⟩, ⟨"R", 3, 5, false, "", "", 40⟩]) := by kernel_rfl
@[simp] theorem rim_cellsC : Try.prog.cellsOf 59 = 6 := by kernel_rfl
@[simp] theorem rim_bytesC : Try.prog.bytesOf 59 = 48 := by kernel_rfl
@[simp] theorem rim_zokC : zeroOk Try.prog 59 = true := by kernel_rfl
@[simp] theorem rim_zeroC : zeroCellsOf Try.prog () 59 = some [.sc (.int .i64 0), .sc (.int .i64 0), .sc (.int .i64 0), .sc (.int .i64 0), .sc (.int .i64 0), .sc (.int .i64 0)] := by kernel_rfl
@[simp] theorem rim_infosC : infosOk Try.prog 59 = true := by kernel_rfl
@[simp] theorem rim_undS : Try.prog.underlying 33 = some (.slice 59) := by kernel_rfl
@[simp] theorem rim_cellsS : Try.prog.cellsOf 33 = 1 := by kernel_rfl
@[simp] theorem rim_zeroS : zeroCellsOf Try.prog () 33 = some [.sl true 6 () []] := by kernel_rfl
@[simp] theorem rim_undT : Try.prog.underlying 35 = some (.struct #[⟨"End", 3, 0, false, "", "", 0⟩, ⟨"Cuts", 33, 1, false, "", "", 8⟩]) := by kernel_rfl
@[simp] theorem rim_cellsT : Try.prog.cellsOf 35 = 2 := by kernel_rfl
@[simp] theorem rim_zeroT : zeroCellsOf Try.prog () 35 = some [.sc (.int .i64 0), .sl true 6 () []] := by kernel_rfl
@[simp] theorem rim_infosT : infosOk Try.prog 35 = true := by kernel_rfl
@[simp] theorem rim_undZ : Try.prog.underlying 41 = some (.struct #[⟨"Left", 39, 0, false, "", "", 0⟩, ⟨"Edges", 22, 1, false, "", "", 24⟩, ⟨"Marks", 39, 2, false, "", "", 48⟩]) := by kernel_rfl
@[simp] theorem rim_cellsZ : Try.prog.cellsOf 41 = 3 := by kernel_rfl
@[simp] theorem rim_zeroZ : zeroCellsOf Try.prog () 41 = some [.sl true 1 () [], .sl true 2 () [], .sl true 1 () []] := by kernel_rfl
@[simp] theorem rim_infosZ : infosOk Try.prog 41 = true := by kernel_rfl
@[simp] theorem ref20_undC : Try.prog.underlying 62 = some (.struct #[⟨"A", 3, 0, false, "", "", 0⟩, ⟨"B", 3, 1, false, "", "", 8⟩, ⟨"C", 3, 2, false, "", "", 16⟩, ⟨"P", 3, 3, false, "", "", 24⟩, ⟨"Q", 3, 4, false, "", "", 32⟩, ⟨"R", 3, 5, false, "", "", 40⟩]) := by kernel_rfl
@[simp] theorem ref20_cellsC : Try.prog.cellsOf 62 = 6 := by kernel_rfl
@[simp] theorem ref20_bytesC : Try.prog.bytesOf 62 = 48 := by kernel_rfl
@[simp] theorem ref20_zokC : zeroOk Try.prog 62 = true := by kernel_rfl
@[simp] theorem ref20_zeroC : zeroCellsOf Try.prog () 62 = some [.sc (.int .i64 0), .sc (.int .i64 0), .sc (.int .i64 0), .sc (.int .i64 0), .sc (.int .i64 0), .sc (.int .i64 0)] := by kernel_rfl
@[simp] theorem ref20_infosC : infosOk Try.prog 62 = true := by kernel_rfl
@[simp] theorem ref20_undS : Try.prog.underlying 29 = some (.slice 62) := by kernel_rfl
@[simp] theorem ref20_cellsS : Try.prog.cellsOf 29 = 1 := by kernel_rfl
@[simp] theorem ref20_zeroS : zeroCellsOf Try.prog () 29 = some [.sl true 6 () []] := by kernel_rfl
@[simp] theorem ref20_undT : Try.prog.underlying 31 = some (.struct #[⟨"End", 3, 0, false, "", "", 0⟩, ⟨"Cuts", 29, 1, false, "", "", 8⟩]) := by kernel_rfl
@[simp] theorem ref20_cellsT : Try.prog.cellsOf 31 = 2 := by kernel_rfl
@[simp] theorem ref20_zeroT : zeroCellsOf Try.prog () 31 = some [.sc (.int .i64 0), .sl true 6 () []] := by kernel_rfl
@[simp] theorem ref20_infosT : infosOk Try.prog 31 = true := by kernel_rfl
@[simp] theorem ref20_undZ : Try.prog.underlying 45 = some (.struct #[⟨"Left", 39, 0, false, "", "", 0⟩, ⟨"Edges", 22, 1, false, "", "", 24⟩, ⟨"Marks", 39, 2, false, "", "", 48⟩]) := by kernel_rfl
@[simp] theorem ref20_cellsZ : Try.prog.cellsOf 45 = 3 := by kernel_rfl
@[simp] theorem ref20_zeroZ : zeroCellsOf Try.prog () 45 = some [.sl true 1 () [], .sl true 2 () [], .sl true 1 () []] := by kernel_rfl
@[simp] theorem ref20_infosZ : infosOk Try.prog 45 = true := by kernel_rfl
@[simp] theorem kdLen_s (n : Nat) : kdLen (some n) = n := rfl
@[simp] theorem kdLen_n : kdLen none = 1 := rfl
@[simp] theorem kdKd_s (n : Nat) : kdKd (some n) = .agg := rfl
@[simp] theorem kdKd_n : kdKd none = .one := rfl
/-- A trace: frozen, owned; in a box. -/
abbrev tr (n : Int) (l : List Cu) : SV Unit := ⟨.agg, [.c (.sc (.int .i64 n)), .c (.sl false 6 () (CL l))]⟩
abbrev tro (n : Int) (l : List Cu) : SV Unit := ⟨.agg, [.c (.sc (.int .i64 n)), .c (.sl true 6 () (CL l))]⟩
abbrev trbx (n : Int) (l : List Cu) : SV Unit := ⟨.one, [.c (.bx true () [.sc (.int .i64 n), .sl false 6 () (CL l)])]⟩
abbrev trobx (n : Int) (l : List Cu) : SV Unit := ⟨.one, [.c (.bx true () [.sc (.int .i64 n), .sl true 6 () (CL l)])]⟩
abbrev cuts (l : List Cu) : SV Unit := ⟨.one, [.c (.sl false 6 () (CL l))]⟩
def toCuts : List (Cell Unit) → Option (List Cu)
  | [] => some []
  | .sc (.int .i64 a) :: .sc (.int .i64 b) :: .sc (.int .i64 c) :: .sc (.int .i64 d) :: .sc (.int .i64 e) :: .sc (.int .i64 f) :: l => match toCuts l with
    | some m => some ((a, b, c, d, e, f) :: m)
    | none => none
  | _ => none
@[simp] theorem toCuts_CL (l : List Cu) : toCuts (CL l) = some l := by
  induction l with
  | nil => rfl
  | cons x l ih => simp only [CL, toCuts, ih]
theorem toCuts_eq : ∀ {row : List (Cell Unit)} {l : List Cu}, toCuts row = some l → row = CL l := by
  intro row
  induction row using toCuts.induct with
  | case1 => intro l h; simp only [toCuts, Option.some.injEq] at h; subst h; rfl
  | case2 a b c d e f l m hm ih => intro l' h; simp only [toCuts, hm, Option.some.injEq] at h; subst h; rw [ih hm]; rfl
  | case3 a b c d e f l hm ih => intro l' h; simp only [toCuts, hm] at h; cases h
  | case4 r h1 h2 =>
    intro l' h
    unfold toCuts at h
    split at h
    all_goals first | exact (h1 rfl).elim | exact (h2 _ _ _ _ _ _ _ rfl).elim | cases h
def asTr : SV Unit → Option (Int × List Cu)
  | ⟨.agg, [.c (.sc (.int .i64 n)), .c (.sl false 6 () row)]⟩ => match toCuts row with
    | some l => some (n, l)
    | none => none
  | _ => none
@[simp] theorem asTr_tr (n : Int) (l : List Cu) : asTr (tr n l) = some (n, l) := by simp [asTr]
theorem asTr_eq {v : SV Unit} {x : Int × List Cu} (h : asTr v = some x) : v = tr x.1 x.2 := by
  unfold asTr at h
  split at h
  · next n row =>
    split at h
    · next l hl => simp only [Option.some.injEq] at h; subst h; rw [toCuts_eq hl]
    · cases h
  · cases h
def asCuts : SV Unit → Option (List Cu)
  | ⟨.one, [.c (.sl false 6 () row)]⟩ => toCuts row
  | _ => none
@[simp] theorem asCuts_cuts (l : List Cu) : asCuts (cuts l) = some l := toCuts_CL l
theorem asCuts_eq {v : SV Unit} {l : List Cu} (h : asCuts v = some l) : v = cuts l := by
  unfold asCuts at h
  split at h
  · rw [toCuts_eq h]
  · cases h
end Go.Proofs.Ytnmocjhpbobahaa.L
