/- RA: arrays of three as rows; has and inner as calls; what a cut is. R38: rest.state. -/
import Derived.Test.YtnmocjhpbobahaaQ13
set_option linter.unusedVariables false
set_option linter.unusedSimpArgs false
set_option linter.unnecessarySimpa false
namespace Go.Proofs.Ytnmocjhpbobahaa.L
open Go Go.RowKit
set_option maxRecDepth 100000
abbrev il3 (x y z : Int) : List (Cell Unit) := [.sc (.int .i64 x), .sc (.int .i64 y), .sc (.int .i64 z)]
@[simp] theorem sMin3 (x y z : Int) : specMin [⟨.one, [.c (.sl false 1 () (il3 x y z))]⟩] = some (iv (minL [x, y, z])) := sMin [x, y, z] (by simp) (by simp)
@[simp] theorem sMax3 (x y z : Int) : specMax [⟨.one, [.c (.sl false 1 () (il3 x y z))]⟩] = some (iv (maxL [x, y, z])) := sMax [x, y, z] (by simp) (by simp)
@[simp] theorem sIndex3 (x y z v : Int) : specIndex [⟨.one, [.c (.sl false 1 () (il3 x y z))]⟩, iv v] = some (iv (idxI [x, y, z] v)) := sIndex [x, y, z] v (by simp)
/-- Is it one of three? -/
def in3 (a b c x : Int) : Bool := decide (x ∈ [a, b, c])
theorem in3_iff {a b c x : Int} : in3 a b c x = true ↔ x = a ∨ x = b ∨ x = c := by simp [in3]
@[simp] theorem sContains3 (x y z v : Int) : specContains [⟨.one, [.c (.sl false 1 () (il3 x y z))]⟩, iv v] = some (bv (in3 x y z v)) := sContains [x, y, z] v (by simp)
/-! ### a number out of an array's value (four) -/
def idx4 (u v : Option Value) (t : Nat) (z : Option (Eff Unit)) : Option (Eff Unit) := match u, v with
  | some (.agg ⟨[.int .i64 a, .int .i64 b, .int .i64 c, .int .i64 e]⟩), some (.int .i64 i) => if i = 0 then some (effP t (iv a)) else if i = 1 then some (effP t (iv b)) else if i = 2 then some (effP t (iv c)) else if i = 3 then some (effP t (iv e)) else z
  | _, _ => z
@[simp] theorem idx4_i (a b c e i : Int) (t : Nat) (z : Option (Eff Unit)) : idx4 (some (.agg #[.int .i64 a, .int .i64 b, .int .i64 c, .int .i64 e])) (some (.int .i64 i)) t z = if i = 0 then some (effP t (iv a)) else if i = 1 then some (effP t (iv b)) else if i = 2 then some (effP t (iv c)) else if i = 3 then some (effP t (iv e)) else z := rfl
section
variable {σ : St Unit} {t : Nat} {x y : Operand} {d : Option Nat} {ty : TypeId} {pos : String} {af : Array Edge} {g : Option (Nat × Bool)}
theorem sem_idx4 {ρ : Operand → Value} {a b c e i : Int} (hx : ρ x = .agg #[.int .i64 a, .int .i64 b, .int .i64 c, .int .i64 e]) (hy : ρ y = .int .i64 i) : (i = 0 → pv Try.prog (execOp ρ ⟨d, .index 120 x y, ty, pos, af, g⟩) = some (.value (.int .i64 a))) ∧ (i = 1 → pv Try.prog (execOp ρ ⟨d, .index 120 x y, ty, pos, af, g⟩) = some (.value (.int .i64 b))) ∧ (i = 2 → pv Try.prog (execOp ρ ⟨d, .index 120 x y, ty, pos, af, g⟩) = some (.value (.int .i64 c))) ∧ (i = 3 → pv Try.prog (execOp ρ ⟨d, .index 120 x y, ty, pos, af, g⟩) = some (.value (.int .i64 e))) := by
  refine ⟨?_, ?_, ?_, ?_⟩ <;> (rintro rfl; simp only [execOp, hx, hy]; kernel_rfl)
@[simp] theorem eff_idx4 : effPure Try.prog σ t ⟨d, .index 120 x y, ty, pos, af, g⟩ = idx4 (valOf σ x) (valOf σ y) t (effZ Try.prog σ t ⟨d, .index 120 x y, ty, pos, af, g⟩) := by
  unfold idx4
  split
  · next a b c e i hx hy =>
    have key : ∀ v, pv Try.prog (execOp (fun x => (valOf σ x).getD undef) ⟨d, .index 120 x y, ty, pos, af, g⟩) = some (.value (.int .i64 v)) → effPure Try.prog σ t ⟨d, .index 120 x y, ty, pos, af, g⟩ = some (effP t (iv v)) := by
      intro v h
      unfold effPure
      rw [if_pos (by simp [pureOp, Op.operands, hx, hy, -valOf]), h]
      rfl
    obtain ⟨h0, h1, h2, h3⟩ := sem_idx4 (x := x) (y := y) (d := d) (ty := ty) (pos := pos) (af := af) (g := g) (ρ := fun x => (valOf σ x).getD undef) (a := a) (b := b) (c := c) (e := e) (i := i) (by show (valOf σ x).getD undef = _; rw [hx]; rfl) (by show (valOf σ y).getD undef = _; rw [hy]; rfl)
    split
    · next q => exact key a (h0 q)
    · split
      · next q => exact key b (h1 q)
      · split
        · next q => exact key c (h2 q)
        · split
          · next q => exact key e (h3 q)
          · rfl
  · rfl
end
/-! ### all of an array of three as a slice -/
def sliceO (t : Nat) : Option (Ad Unit) → Option (Eff Unit)
  | some (.own r p off) => some (effP t ⟨.one, [.ref r p off (some (3, 1))]⟩)
  | _ => none
@[simp] theorem sliceO_own (t r : Nat) (p : List Nat) (off : Nat) : sliceO t (some (.own r p off)) = some (effP t ⟨.one, [.ref r p off (some (3, 1))]⟩) := rfl
@[simp] theorem eff_sliceArr {σ : St Unit} {t s : Nat} : effSliceArr Try.prog σ t 82 (.tmp s) none none none = sliceO t (adOf σ (.tmp s)) := by
  unfold effSliceArr sliceO
  rw [und82]
  cases adOf σ (.tmp s) with
  | none => rfl
  | some x => cases x <;> rfl
def HasOk (r : Rst) (a : Nat) : Prop := ∃ n : Nat, RstOk n r ∧ n ≤ 1000000 ∧ a < n
@[simp] theorem sHasR {r : Rst} {a : Nat} {b : Int} (h : HasOk r a) : specHas [⟨.one, [.c (rstF r)]⟩, iv a, iv b] = some (bv (decide (b ∈ nthR r.near a))) := by
  obtain ⟨n, h1, h2, h3⟩ := h
  exact sHas h1 h2 a b h3
/-- No leaf. -/
def innB (r : Rst) (a : Nat) : Bool := decide (nth r.mark a = 2 ∨ 3 < (nthR r.near a).length)
@[simp] theorem sInnerR {r : Rst} {a : Nat} (h : HasOk r a) : specInner [⟨.one, [.c (rstF r)]⟩, iv a] = some (bv (innB r a)) := by
  obtain ⟨n, h1, h2, h3⟩ := h
  exact sInner h1 h2 a h3
theorem idx3_0 (q s : Int) : idxI [(-1 : Int), q, s] (-1) = 0 := by simp [idxI]
theorem idx3_1 (p : Nat) (s : Int) : idxI [(p : Int), -1, s] (-1) = 1 := by
  have : ((p : Int) == -1) = false := beq_false_of_ne (by omega)
  simp [idxI, List.idxOf_cons, this]
theorem idx3_2 (p q : Nat) : idxI [(p : Int), (q : Int), -1] (-1) = 2 := by
  have h1 : ((p : Int) == -1) = false := beq_false_of_ne (by omega)
  have h2 : ((q : Int) == -1) = false := beq_false_of_ne (by omega)
  simp [idxI, List.idxOf_cons, h1, h2]
/-- The last of the first i that is none of the three. -/
def outN (a b c : Int) (row : List Int) : Nat → Int
  | 0 => -1
  | i + 1 => if in3 a b c (nth row i) then outN a b c row i else nth row i
def outV (r : Rst) (a b c v : Nat) : Int := if (nthR r.near v).length = 3 then outN a b c (nthR r.near v) 3 else -1
def isT (r : Rst) (v : Nat) : Int := if (nthR r.near v).length = 3 then 1 else 0
/-- The cut of three vertices. -/
def cutF (r : Rst) (a b c : Nat) : Cu × Bool :=
  if r.count ≤ 4 ∨ (b : Int) ∉ nthR r.near a ∨ (c : Int) ∉ nthR r.near a ∨ (c : Int) ∉ nthR r.near b then ((0, 0, 0, 0, 0, 0), false)
  else ((a, b, c, outV r a b c a, outV r a b c b, outV r a b c c), decide (2 ≤ isT r a + isT r b + isT r c))
abbrev cutB (e : Cu) (b : Bool) : SV Unit := ⟨.tup [some 6, none], [.c (.sc (.int .i64 e.1)), .c (.sc (.int .i64 e.2.1)), .c (.sc (.int .i64 e.2.2.1)), .c (.sc (.int .i64 e.2.2.2.1)), .c (.sc (.int .i64 e.2.2.2.2.1)), .c (.sc (.int .i64 e.2.2.2.2.2)), .c (.sc (.bool b))]⟩
/-- A cut with an apex u; x is below y; s and t are their outer neighbours. -/
def wideF (r : Rst) (u x y s t : Nat) : Rst × Bool :=
  if s = t ∨ innB r x = true ∨ innB r y = true ∨ innB r s = true ∨ innB r t = true then (r, false)
  else (⟨((r.leave y).join x t).near, (((((r.leave y).join x t).mark.set u 2).set x 1).set s 1).set t 1, ((r.leave y).join x t).gone, ((r.leave y).join x t).count⟩, true)
end Go.Proofs.Ytnmocjhpbobahaa.L
namespace Go.Proofs.Ytnmocjhpbobahaa.L
open Go Go.RowKit
set_option maxRecDepth 100000
set_option maxHeartbeats 4000000
def leftF (r : Rst) : Nat → List Int
  | 0 => []
  | i + 1 => if nthB r.gone i = true then leftF r i else leftF r i ++ [(i : Int)]
def marksF (r : Rst) : Nat → List Int
  | 0 => []
  | i + 1 => if nthB r.gone i = true then marksF r i else marksF r i ++ [nth r.mark i]
def upF (row : List Int) (v : Nat) : Nat → List (Int × Int)
  | 0 => []
  | j + 1 => if (v : Int) < nth row j then upF row v j ++ [((v : Int), nth row j)] else upF row v j
def edgesF (r : Rst) : Nat → List (Int × Int)
  | 0 => []
  | i + 1 => if nthB r.gone i = true then edgesF r i else edgesF r i ++ upF (nthR r.near i) i (nthR r.near i).length
abbrev stV (l : List Int) (e : List (Int × Int)) (m : List Int) : SV Unit := ⟨.agg, [.c (.sl true 1 () (IL l)), .c (.sl true 2 () (EL e)), .c (.sl true 1 () (IL m))]⟩
def StateOk (r : Rst) : Prop := RstOk r.near.length r ∧ r.near.length ≤ 1000
noncomputable def specState : Spec := fun us => match us with
  | [x] => match asRst x with
    | some r => whenC (StateOk r) (stV (leftF r r.near.length) (edgesF r r.near.length) (marksF r r.near.length))
    | _ => none
  | _ => none
@[simp] theorem sStateR {r : Rst} (h : StateOk r) : specState [⟨.one, [.c (rstF r)]⟩] = some (stV (leftF r r.near.length) (edgesF r r.near.length) (marksF r r.near.length)) := by
  unfold specState
  simp only [asRst_rst]
  exact whenC_pos _ h
@[simp] theorem callState {E : Env} {σ : St Unit} {t : Nat} {l : List Operand} : effCall Try.prog E ΩU σ t 38 l = callO E 38 t (argsOf Try.prog ΩU σ [63] l) := eff_call Try.func38 Try.params38
end Go.Proofs.Ytnmocjhpbobahaa.L
