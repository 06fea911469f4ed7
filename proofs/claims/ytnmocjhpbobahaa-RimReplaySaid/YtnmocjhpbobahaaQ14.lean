/- RA: arrays of three as rows; has and inner as calls; what a cut is. R38: rest.state. U40: Rest.State of the document's table. -/
import Derived.Test.YtnmocjhpbobahaaQ13
set_option linter.unusedVariables false
set_option linter.unusedSimpArgs false
set_option linter.unnecessarySimpa false
namespace Go.Proofs.Ytnmocjhpbobahaa.L
open Go Go.RowKit
set_option maxRecDepth 100000
abbrev il3 (x y z : Int) : List (Cell Unit) := [.sc (.int .i64 x), .sc (.int .i64 y), .sc (.int .i64 z)]
@[simp] theorem sMin3 (x y z : Int) : specMin [⟨.one, [.c (.sl false 1 () (il3 x y z))]⟩] = some (iv (minL [x, y, z])) := sMin [x, y, z] (by simp) (by simp)
@[simp] theorem sMax3 (x y z : Int) : specMax [⟨.one, [.c (.sl false 1 () (il3 x y z))]⟩] = some (iv (maxL [x, y, z])) := sMax [x, y, z] (by simp) (by simp)
@[simp] theorem sIndex3 (x y z v : Int) : specIndex [⟨.one, [.c (.sl false 1 () (il3 x y z))]⟩, iv v] = some (iv (idxI [x, y, z] v)) := sIndex [x, y, z] v (by simp)
/-- Is it one of three? -/
def in3 (a b c x : Int) : Bool := decide (x ∈ [a, b, c])
theorem in3_iff {a b c x : Int} : in3 a b c x = true ↔ x = a ∨ x = b ∨ x = c := by simp [in3]
@[simp] theorem sContains3 (x y z v : Int) : specContains [⟨.one, [.c (.sl false 1 () (il3 x y z))]⟩, iv v] = some (bv (in3 x y z v)) := sContains [x, y, z] v (by simp)
/-! ### a number out of an array's value (four) -/
def idx4 (u v : Option Value) (t : Nat) (z : Option (Eff Unit)) : Option (Eff Unit) := match u, v with
  | some (.agg ⟨[.int .i64 a, .int .i64 b, .int .i64 c, .int .i64 e]⟩), some (.int .i64 i) => if i = 0 then some (effP t (iv a)) else if i = 1 then some (effP t (iv b)) else if i = 2 then some (effP t (iv c)) else if i = 3 then some (effP t (iv e)) else z
  | _, _ => z
@[simp] theorem idx4_i (a b c e i : Int) (t : Nat) (z : Option (Eff Unit)) : idx4 (some (.agg #[.int .i64 a, .int .i64 b, .int .i64 c, .int .i64 e])) (some (.int .i64 i)) t z = if i = 0 then some (effP t (iv a)) else if i = 1 then some (effP t (iv b)) else if i = 2 then some (effP t (iv c)) else if i = 3 then some (effP t (iv e)) else z := rfl
section
variable {σ : St Unit} {t : Nat} {x y : Operand} {d : Option Nat} {ty : TypeId} {pos : String} {af : Array Edge} {g : Option (Nat × Bool)}
theorem sem_idx4 {ρ : Operand → Value} {a b c e i : Int} (hx : ρ x = .agg #[.int .i64 a, .int .i64 b, .int .i64 c, .int .i64 e]) (hy : ρ y = .int .i64 i) : (i = 0 → pv Try.prog (execOp ρ ⟨d, .index 120 x y, ty, pos, af, g⟩) = some (.value (.int .i64 a))) ∧ (i = 1 → pv Try.prog (execOp ρ ⟨d, .index 120 x y, ty, pos, af, g⟩) = some (.value (.int .i64 b))) ∧ (i = 2 → pv Try.prog (execOp ρ ⟨d, .index 120 x y, ty, pos, af, g⟩) = some (.value (.int .i64 c))) ∧ (i = 3 → pv Try.prog (execOp ρ ⟨d, .index 120 x y, ty, pos, af, g⟩) = some (.value (.int .i64 e))) := by
  refine ⟨?_, ?_, ?_, ?_⟩ <;> (rintro rfl; simp only [execOp, hx, hy]; kernel_rfl)
@[simp] theorem eff_idx4 : effPure Try.prog σ t ⟨d, .index 120 x y, ty, pos, af, g⟩ = idx4 (valOf σ x) (valOf σ y) t (effZ Try.prog σ t ⟨d, .index 120 x y, ty, pos, af, g⟩) := by
  unfold idx4
  split
  · next a b c e i hx hy =>
    have key : ∀ v, pv Try.prog (execOp (fun x => (valOf σ x).getD undef) ⟨d, .index 120 x y, ty, pos, af, g⟩) = some (.value (.int .i64 v)) → effPure Try.prog σ t ⟨d, .index 120 x y, ty, pos, af, g⟩ = some (effP t (iv v)) := by
      intro v h
      unfold effPure
      rw [if_pos (by simp [pureOp, Op.operands, hx, hy, -valOf]), h]
      rfl
    obtain ⟨h0, h1, h2, h3⟩ := sem_idx4 (x := x) (y := y) (d := d) (ty := ty) (pos := pos) (af := af) (g := g) (ρ := fun x => (valOf σ x).getD undef) (a := a) (b := b) (c := c) (e := e) (i := i) (by show (valOf σ x).getD undef = _; rw [hx]; rfl) (by show (valOf σ y).getD undef = _; rw [hy]; rfl)
    split
    · next q => exact key a (h0 q)
    · split
      · next q => exact key b (h1 q)
      · split
        · next q => exact key c (h2 q)
        · split
          · next q => exact key e (h3 q)
          · rfl
  · rfl
end
/-! ### all of an array of three as a slice -/
def sliceO (t : Nat) : Option (Ad Unit) → Option (Eff Unit)
  | some (.own r p off) => some (effP t ⟨.one, [.ref r p off (some (3, 1))]⟩)
  | _ => none
@[simp] theorem sliceO_own (t r : Nat) (p : List Nat) (off : Nat) : sliceO t (some (.own r p off)) = some (effP t ⟨.one, [.ref r p off (some (3, 1))]⟩) := rfl
@[simp] theorem eff_sliceArr {σ : St Unit} {t s : Nat} : effSliceArr Try.prog σ t 82 (.tmp s) none none none = sliceO t (adOf σ (.tmp s)) := by
  unfold effSliceArr sliceO
  rw [und82]
  cases adOf σ (.tmp s) with
  | none => rfl
  | some x => cases x <;> rfl
def HasOk (r : Rst) (a : Nat) : Prop := ∃ n : Nat, RstOk n r ∧ n ≤ 1000000 ∧ a < n
@[simp] theorem sHasR {r : Rst} {a : Nat} {b : Int} (h : HasOk r a) : specHas [⟨.one, [.c (rstF r)]⟩, iv a, iv b] = some (bv (decide (b ∈ nthR r.near a))) := by
  obtain ⟨n, h1, h2, h3⟩ := h
  exact sHas h1 h2 a b h3
/-- No leaf. -/
def innB (r : Rst) (a : Nat) : Bool := decide (nth r.mark a = 2 ∨ 3 < (nthR r.near a).length)
@[simp] theorem sInnerR {r : Rst} {a : Nat} (h : HasOk r a) : specInner [⟨.one, [.c (rstF r)]⟩, iv a] = some (bv (innB r a)) := by
  obtain ⟨n, h1, h2, h3⟩ := h
  exact sInner h1 h2 a h3
theorem idx3_0 (q s : Int) : idxI [(-1 : Int), q, s] (-1) = 0 := by simp [idxI]
theorem idx3_1 (p : Nat) (s : Int) : idxI [(p : Int), -1, s] (-1) = 1 := by
  have : ((p : Int) == -1) = false := beq_false_of_ne (by omega)
  simp [idxI, List.idxOf_cons, this]
theorem idx3_2 (p q : Nat) : idxI [(p : Int), (q : Int), -1] (-1) = 2 := by
  have h1 : ((p : Int) == -1) = false := beq_false_of_ne (by omega)
  have h2 : ((q : Int) == -1) = false := beq_false_of_ne (by omega)
  simp [idxI, List.idxOf_cons, h1, h2]
/-- The last of the first i that is none of the three. -/
def outN (a b c : Int) (row : List Int) : Nat → Int
  | 0 => -1
  | i + 1 => if in3 a b c (nth row i) then outN a b c row i else nth row i
def outV (r : Rst) (a b c v : Nat) : Int := if (nthR r.near v).length = 3 then outN a b c (nthR r.near v) 3 else -1
def isT (r : Rst) (v : Nat) : Int := if (nthR r.near v).length = 3 then 1 else 0
/-- The cut of three vertices. -/
def cutF (r : Rst) (a b c : Nat) : Cu × Bool :=
  if r.count ≤ 4 ∨ (b : Int) ∉ nthR r.near a ∨ (c : Int) ∉ nthR r.near a ∨ (c : Int) ∉ nthR r.near b then ((0, 0, 0, 0, 0, 0), false)
  else ((a, b, c, outV r a b c a, outV r a b c b, outV r a b c c), decide (2 ≤ isT r a + isT r b + isT r c))
abbrev cutB (e : Cu) (b : Bool) : SV Unit := ⟨.tup [some 6, none], [.c (.sc (.int .i64 e.1)), .c (.sc (.int .i64 e.2.1)), .c (.sc (.int .i64 e.2.2.1)), .c (.sc (.int .i64 e.2.2.2.1)), .c (.sc (.int .i64 e.2.2.2.2.1)), .c (.sc (.int .i64 e.2.2.2.2.2)), .c (.sc (.bool b))]⟩
/-- A cut with an apex u; x is below y; s and t are their outer neighbours. -/
def wideF (r : Rst) (u x y s t : Nat) : Rst × Bool :=
  if s = t ∨ innB r x = true ∨ innB r y = true ∨ innB r s = true ∨ innB r t = true then (r, false)
  else (⟨((r.leave y).join x t).near, (((((r.leave y).join x t).mark.set u 2).set x 1).set s 1).set t 1, ((r.leave y).join x t).gone, ((r.leave y).join x t).count⟩, true)
end Go.Proofs.Ytnmocjhpbobahaa.L
namespace Go.Proofs.Ytnmocjhpbobahaa.L
open Go Go.RowKit
set_option maxRecDepth 100000
set_option maxHeartbeats 4000000
def leftF (r : Rst) : Nat → List Int
  | 0 => []
  | i + 1 => if nthB r.gone i = true then leftF r i else leftF r i ++ [(i : Int)]
def marksF (r : Rst) : Nat → List Int
  | 0 => []
  | i + 1 => if nthB r.gone i = true then marksF r i else marksF r i ++ [nth r.mark i]
def upF (row : List Int) (v : Nat) : Nat → List (Int × Int)
  | 0 => []
  | j + 1 => if (v : Int) < nth row j then upF row v j ++ [((v : Int), nth row j)] else upF row v j
def edgesF (r : Rst) : Nat → List (Int × Int)
  | 0 => []
  | i + 1 => if nthB r.gone i = true then edgesF r i else edgesF r i ++ upF (nthR r.near i) i (nthR r.near i).length
abbrev stV (l : List Int) (e : List (Int × Int)) (m : List Int) : SV Unit := ⟨.agg, [.c (.sl true 1 () (IL l)), .c (.sl true 2 () (EL e)), .c (.sl true 1 () (IL m))]⟩
abbrev stS (r : Rst) (l : List Int) (e : List (Int × Int)) (m : List Int) (i : Nat) : St Unit := [(0, rf r), (2, ⟨.one, [.c (.bx true () [.sl true 1 () [], .sl true 2 () [], .sl true 1 () []])]⟩), (3, ⟨.one, [.c (.bx true () [.sl true 1 () (IL l), .sl true 2 () (EL e), .sl true 1 () (IL m)])]⟩), (11, rows r.near), (12, iv r.near.length), (13, iv i)]
abbrev stT (r : Rst) (l : List Int) (e : List (Int × Int)) (m : List Int) (i j : Nat) : St Unit := [(0, rf r), (2, ⟨.one, [.c (.bx true () [.sl true 1 () [], .sl true 2 () [], .sl true 1 () []])]⟩), (3, ⟨.one, [.c (.bx true () [.sl true 1 () (IL l), .sl true 2 () (EL e), .sl true 1 () (IL m)])]⟩), (4, iv i), (11, rows r.near), (12, iv r.near.length), (13, iv i), (43, ints (nthR r.near i)), (44, iv (nthR r.near i).length), (45, iv j)]
theorem leftF_le (r : Rst) (i : Nat) : (leftF r i).length ≤ i := by
  induction i with
  | zero => exact Nat.le_refl _
  | succ i ih => rw [leftF]; split
                 · omega
                 · rw [List.length_append]; simp only [List.length_cons, List.length_nil]; omega
theorem marksF_le (r : Rst) (i : Nat) : (marksF r i).length ≤ i := by
  induction i with
  | zero => exact Nat.le_refl _
  | succ i ih => rw [marksF]; split
                 · omega
                 · rw [List.length_append]; simp only [List.length_cons, List.length_nil]; omega
theorem upF_le (row : List Int) (v j : Nat) : (upF row v j).length ≤ j := by
  induction j with
  | zero => exact Nat.le_refl _
  | succ j ih => rw [upF]; split
                 · rw [List.length_append]; simp only [List.length_cons, List.length_nil]; omega
                 · omega
theorem edgesF_le {n : Nat} {r : Rst} (hr : RstOk n r) (i : Nat) (hi : i ≤ n) : (edgesF r i).length ≤ i * n := by
  induction i with
  | zero => simp [edgesF]
  | succ i ih =>
    have := ih (by omega)
    rw [edgesF, Nat.add_mul, Nat.one_mul]
    split
    · omega
    · rw [List.length_append]
      have h1 := upF_le (nthR r.near i) i (nthR r.near i).length
      have h2 := hr.len (show i < n by omega)
      omega
theorem wState (n : Nat) (r : Rst) (hr : RstOk n r) (hn : n ≤ 1000) : ∃ k, Try.f38.body = some k ∧ RP (regOf Try.prog env0 63 u38) k (argsSt 0 [rf r]) (endsAs Try.prog Try.f38 (stV (leftF r n) (edgesF r n) (marksF r n))) := by
  refine ⟨_, rfl, ?_⟩
  generalize hQ : endsAs Try.prog Try.f38 (stV (leftF r n) (edgesF r n) (marksF r n)) = Q
  simp only [argsSt]
  have c1 := hr.near
  refine go ?_
  apply rp_loop (fun k σ => ∃ i : Nat, i ≤ n ∧ k = n - i ∧ σ = stS r (leftF r i) (edgesF r i) (marksF r i) i) n
  · exact ⟨0, by omega, by omega, rfl⟩
  rintro k σ ⟨i, hi, rfl, rfl⟩
  have c2 := hr.mark
  have c3 := hr.gone
  have q1 := leftF_le r i
  have q2 := marksF_le r i
  have q3 := edgesF_le hr i hi
  by_cases hil : i < n
  · have i1 : i < r.near.length := by omega
    have i2 : i < r.mark.length := by omega
    have i3 : i < r.gone.length := by omega
    have l1 := hr.len hil
    cases hg : nthB r.gone i with
    | true =>
      have e1 : leftF r (i + 1) = leftF r i := by rw [leftF, if_pos hg]
      have e2 : marksF r (i + 1) = marksF r i := by rw [marksF, if_pos hg]
      have e3 : edgesF r (i + 1) = edgesF r i := by rw [edgesF, if_pos hg]
      refine go ?_
      simp only [hg]
      refine go ?_
      exact nxt (n - (i + 1)) (by omega) ⟨i + 1, by omega, rfl, by rw [e1, e2, e3]; rfl⟩
    | false =>
      have e1 : leftF r (i + 1) = leftF r i ++ [(i : Int)] := by rw [leftF, if_neg (by rw [hg]; exact Bool.noConfusion)]
      have e2 : marksF r (i + 1) = marksF r i ++ [nth r.mark i] := by rw [marksF, if_neg (by rw [hg]; exact Bool.noConfusion)]
      have e3 : edgesF r (i + 1) = edgesF r i ++ upF (nthR r.near i) i (nthR r.near i).length := by rw [edgesF, if_neg (by rw [hg]; exact Bool.noConfusion)]
      generalize hL : leftF r i = L at *
      generalize hM : marksF r i = M at *
      generalize hE : edgesF r i = E at *
      refine go ?_
      simp only [hg]
      refine go ?_
      apply rp_loop (fun k σ => ∃ j : Nat, j ≤ (nthR r.near i).length ∧ k = (nthR r.near i).length - j ∧ σ = stT r (L ++ [(i : Int)]) (E ++ upF (nthR r.near i) i j) (M ++ [nth r.mark i]) i j) (nthR r.near i).length
      · exact ⟨0, by omega, by omega, by rw [upF, List.append_nil]; rfl⟩
      rintro k σ ⟨j, hj, rfl, rfl⟩
      have q4 := upF_le (nthR r.near i) i j
      have q5 : (E ++ upF (nthR r.near i) i j).length ≤ 2000000 := by
        rw [List.length_append]
        have : E.length ≤ 1000 * 1000 := Nat.le_trans q3 (Nat.mul_le_mul (by omega) (by omega))
        omega
      by_cases hjl : j < (nthR r.near i).length
      · by_cases hx : (i : Int) < nth (nthR r.near i) j
        · have e4 : E ++ upF (nthR r.near i) i (j + 1) = E ++ upF (nthR r.near i) i j ++ [((i : Int), nth (nthR r.near i) j)] := by rw [upF, if_pos hx, List.append_assoc]
          generalize hF : E ++ upF (nthR r.near i) i j = F at *
          refine go ?_
          exact nxt ((nthR r.near i).length - (j + 1)) (by omega) ⟨j + 1, by omega, rfl, by rw [e4]; rfl⟩
        · have e4 : E ++ upF (nthR r.near i) i (j + 1) = E ++ upF (nthR r.near i) i j := by rw [upF, if_neg hx]
          generalize hF : E ++ upF (nthR r.near i) i j = F at *
          refine go ?_
          exact nxt ((nthR r.near i).length - (j + 1)) (by omega) ⟨j + 1, by omega, rfl, by rw [e4]; rfl⟩
      obtain rfl : j = (nthR r.near i).length := by omega
      refine go ?_
      exact nxt (n - (i + 1)) (by omega) ⟨i + 1, by omega, rfl, by rw [e1, e2, e3]; rfl⟩
  obtain rfl : i = n := by omega
  refine go ?_
  show Q .ret _; refine fin_ret hQ rfl ?_
  rfl
def StateOk (r : Rst) : Prop := RstOk r.near.length r ∧ r.near.length ≤ 1000
noncomputable def specState : Spec := fun us => match us with
  | [x] => match asRst x with
    | some r => whenC (StateOk r) (stV (leftF r r.near.length) (edgesF r r.near.length) (marksF r r.near.length))
    | _ => none
  | _ => none
theorem okState : SpecOk 38 specState := by
  intro us R h
  unfold specState at h
  split at h
  · split at h
    · next x _ r h1 =>
      obtain ⟨⟨h2, h3⟩, rfl⟩ := whenC_eq h
      rw [asRst_eq h1]
      exact goodBy2 env0_ok Try.func38 rfl (Nat.le_of_ble_eq_true rfl) (by decide) (wState _ r h2 h3)
    · cases h
  · cases h
@[simp] theorem sStateR {r : Rst} (h : StateOk r) : specState [⟨.one, [.c (rstF r)]⟩] = some (stV (leftF r r.near.length) (edgesF r r.near.length) (marksF r r.near.length)) := by
  unfold specState
  simp only [asRst_rst]
  exact whenC_pos _ h
@[simp] theorem callState {E : Env} {σ : St Unit} {t : Nat} {l : List Operand} : effCall Try.prog E ΩU σ t 38 l = callO E 38 t (argsOf Try.prog ΩU σ [63] l) := eff_call Try.func38 Try.params38
end Go.Proofs.Ytnmocjhpbobahaa.L
namespace Go.Proofs.Ytnmocjhpbobahaa.L
open Go Go.RowKit
set_option maxRecDepth 100000
set_option maxHeartbeats 4000000
attribute [local simp] bT bF
def leftT (t : Tbl) : Nat → List Int
  | 0 => []
  | i + 1 => if nthB t.inn i = true then leftT t i ++ [(i : Int)] else leftT t i
def marksT (t : Tbl) : Nat → List Int
  | 0 => []
  | i + 1 => if nthB t.inn i = true then marksT t i ++ [nth t.mark i] else marksT t i
/-- The edges from v up, of the j from v + 1 on. -/
def upT (t : Tbl) (v : Nat) : Nat → List (Int × Int)
  | 0 => []
  | j + 1 => if nthB t.inn (v + 1 + j) = true ∧ nthB (nthT t.adj v) (v + 1 + j) = true then upT t v j ++ [((v : Int), ((v + 1 + j : Nat) : Int))] else upT t v j
def edgesT (t : Tbl) (n : Nat) : Nat → List (Int × Int)
  | 0 => []
  | i + 1 => if nthB t.inn i = true then edgesT t n i ++ upT t i (n - (i + 1)) else edgesT t n i
theorem leftT_le (t : Tbl) (i : Nat) : (leftT t i).length ≤ i := by
  induction i with
  | zero => exact Nat.le_refl _
  | succ i ih =>
    rw [leftT]; split
    · rw [List.length_append]; simp only [List.length_cons, List.length_nil]; omega
    · omega
theorem marksT_le (t : Tbl) (i : Nat) : (marksT t i).length ≤ i := by
  induction i with
  | zero => exact Nat.le_refl _
  | succ i ih =>
    rw [marksT]; split
    · rw [List.length_append]; simp only [List.length_cons, List.length_nil]; omega
    · omega
theorem upT_le (t : Tbl) (v j : Nat) : (upT t v j).length ≤ j := by
  induction j with
  | zero => exact Nat.le_refl _
  | succ j ih =>
    rw [upT]; split
    · rw [List.length_append]; simp only [List.length_cons, List.length_nil]; omega
    · omega
theorem edgesT_le (t : Tbl) (n i : Nat) (hi : i ≤ n) : (edgesT t n i).length ≤ i * n := by
  induction i with
  | zero => simp [edgesT]
  | succ i ih =>
    have := ih (by omega)
    rw [edgesT, Nat.add_mul, Nat.one_mul]
    split
    · rw [List.length_append]
      have h1 := upT_le t i (n - (i + 1))
      omega
    · omega
abbrev suS (t : Tbl) (l : List Int) (e : List (Int × Int)) (m : List Int) (i : Nat) : St Unit := [(0, tbf t), (2, ⟨.one, [.c (.bx true () [.sl true 1 () [], .sl true 2 () [], .sl true 1 () []])]⟩), (3, ⟨.one, [.c (.bx true () [.sl true 1 () (IL l), .sl true 2 () (EL e), .sl true 1 () (IL m)])]⟩), (4, iv i)]
abbrev suT (t : Tbl) (l : List Int) (e : List (Int × Int)) (m : List Int) (i x : Nat) : St Unit := [(0, tbf t), (2, ⟨.one, [.c (.bx true () [.sl true 1 () [], .sl true 2 () [], .sl true 1 () []])]⟩), (3, ⟨.one, [.c (.bx true () [.sl true 1 () (IL l), .sl true 2 () (EL e), .sl true 1 () (IL m)])]⟩), (4, iv i), (5, iv x)]
theorem wStateT (n : Nat) (t : Tbl) (ht : TbOk n t) (hn : n ≤ 1000) : ∃ c, Try.f40.body = some c ∧ RP (regOf Try.prog env0 80 u40) c (argsSt 0 [tbf t]) (endsAs Try.prog Try.f40 (stV (leftT t n) (edgesT t n n) (marksT t n))) := by
  refine ⟨_, rfl, ?_⟩
  generalize hQ : endsAs Try.prog Try.f40 (stV (leftT t n) (edgesT t n n) (marksT t n)) = Q
  simp only [argsSt]
  have c1 := ht.inn
  have c2 := ht.mark
  have c3 := ht.adj
  refine go ?_
  apply rp_loop (fun k σ => ∃ i : Nat, i ≤ n ∧ k = n - i ∧ σ = suS t (leftT t i) (edgesT t n i) (marksT t i) i) n
  · exact ⟨0, by omega, by omega, rfl⟩
  rintro k σ ⟨i, hi, rfl, rfl⟩
  have q1 := leftT_le t i
  have q2 := marksT_le t i
  have q3 := edgesT_le t n i hi
  by_cases hil : i < n
  · have i1 : i < t.inn.length := by omega
    have i2 : i < t.mark.length := by omega
    have i3 : i < t.adj.length := by omega
    have i4 := ht.row i hil
    cases hg : nthB t.inn i with
    | false =>
      have e1 : leftT t (i + 1) = leftT t i := by rw [leftT, if_neg (by rw [hg]; exact Bool.noConfusion)]
      have e2 : marksT t (i + 1) = marksT t i := by rw [marksT, if_neg (by rw [hg]; exact Bool.noConfusion)]
      have e3 : edgesT t n (i + 1) = edgesT t n i := by rw [edgesT, if_neg (by rw [hg]; exact Bool.noConfusion)]
      refine go ?_
      exact nxt (n - (i + 1)) (by omega) ⟨i + 1, by omega, rfl, by rw [e1, e2, e3]; rfl⟩
    | true =>
      have e1 : leftT t (i + 1) = leftT t i ++ [(i : Int)] := by rw [leftT, if_pos hg]
      have e2 : marksT t (i + 1) = marksT t i ++ [nth t.mark i] := by rw [marksT, if_pos hg]
      have e3 : edgesT t n (i + 1) = edgesT t n i ++ upT t i (n - (i + 1)) := by rw [edgesT, if_pos hg]
      generalize hL : leftT t i = L at *
      generalize hM : marksT t i = M at *
      generalize hE : edgesT t n i = E at *
      refine go ?_
      apply rp_loop (fun k σ => ∃ j : Nat, j ≤ n - (i + 1) ∧ k = n - (i + 1) - j ∧ σ = suT t (L ++ [(i : Int)]) (E ++ upT t i j) (M ++ [nth t.mark i]) i (i + 1 + j)) (n - (i + 1))
      · exact ⟨0, by omega, by omega, by rw [upT, List.append_nil]; rfl⟩
      rintro k σ ⟨j, hj, rfl, rfl⟩
      have q4 := upT_le t i j
      have q5 : (E ++ upT t i j).length ≤ 2000000 := by
        rw [List.length_append]
        have : E.length ≤ 1000 * 1000 := Nat.le_trans q3 (Nat.mul_le_mul (by omega) (by omega))
        omega
      by_cases hjl : j < n - (i + 1)
      · obtain ⟨x, hx⟩ : ∃ x : Nat, x = i + 1 + j := ⟨_, rfl⟩
        have hxs : i + 1 + (j + 1) = x + 1 := by omega
        have x1 : x < t.inn.length := by omega
        have x2 : x < (nthT t.adj i).length := by omega
        have e0 := fun h => show upT t i (j + 1) = upT t i j from by rw [upT, ← hx, if_neg h]
        have e9 := fun h => show upT t i (j + 1) = upT t i j ++ [((i : Int), (x : Int))] from by rw [upT, ← hx, if_pos h]
        rw [← hx]
        cases h1 : nthB t.inn x with
        | false =>
          have e4 := e0 (by rw [h1]; rintro ⟨h, _⟩; cases h)
          generalize hF : E ++ upT t i j = F at *
          refine go ?_
          exact nxt (n - (i + 1) - (j + 1)) (by omega) ⟨j + 1, by omega, rfl, by rw [e4, hF, hxs]; rfl⟩
        | true =>
          cases h2 : nthB (nthT t.adj i) x with
          | false =>
            have e4 := e0 (by rw [h2]; rintro ⟨_, h⟩; cases h)
            generalize hF : E ++ upT t i j = F at *
            refine go ?_
            exact nxt (n - (i + 1) - (j + 1)) (by omega) ⟨j + 1, by omega, rfl, by rw [e4, hF, hxs]; rfl⟩
          | true =>
            have e4 := e9 ⟨h1, h2⟩
            generalize hF : E ++ upT t i j = F at *
            refine go ?_
            exact nxt (n - (i + 1) - (j + 1)) (by omega) ⟨j + 1, by omega, rfl, by rw [e4, ← List.append_assoc, hF, hxs]; rfl⟩
      obtain rfl : j = n - (i + 1) := by omega
      have hx : i + 1 + (n - (i + 1)) = n := by omega
      rw [hx]
      refine go ?_
      exact nxt (n - (i + 1)) (by omega) ⟨i + 1, by omega, rfl, by rw [e1, e2, e3]; rfl⟩
  obtain rfl : i = n := by omega
  refine go ?_
  show Q .ret _; refine fin_ret hQ rfl ?_
  rfl
def StateT (t : Tbl) : Prop := TbOk t.inn.length t ∧ t.inn.length ≤ 1000
noncomputable def specStateT : Spec := fun us => match us with
  | [x] => match asTb x with
    | some t => whenC (StateT t) (stV (leftT t t.inn.length) (edgesT t t.inn.length t.inn.length) (marksT t t.inn.length))
    | _ => none
  | _ => none
theorem okStateT : SpecOk 40 specStateT := by
  intro us R h
  unfold specStateT at h
  split at h
  · split at h
    · next x _ t h1 =>
      obtain ⟨⟨h3, h4⟩, rfl⟩ := whenC_eq h
      rw [asTb_eq h1]
      exact goodBy2 env0_ok Try.func40 rfl (Nat.le_of_ble_eq_true rfl) (by decide) (wStateT _ t h3 h4)
    · cases h
  · cases h
@[simp] theorem sStateT {t : Tbl} (h : StateT t) : specStateT [⟨.one, [.c (tbF t)]⟩] = some (stV (leftT t t.inn.length) (edgesT t t.inn.length t.inn.length) (marksT t t.inn.length)) := by
  unfold specStateT
  simp only [asTb_tb]
  exact whenC_pos _ h
@[simp] theorem callStateT {E : Env} {σ : St Unit} {t : Nat} {l : List Operand} : effCall Try.prog E ΩU σ t 40 l = callO E 40 t (argsOf Try.prog ΩU σ [70] l) := eff_call Try.func40 Try.params40
end Go.Proofs.Ytnmocjhpbobahaa.L
