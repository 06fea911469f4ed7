/- U34: Rest.Four, Rest.Fits of the document's table. RA: arrays of three as rows; has and inner as calls; what a cut is. R38: rest.state. U40: Rest.State of the document's table. -/
import Derived.Test.YtnmocjhpbobahaaQ16
import Derived.Test.YtnmocjhpbobahaaQ15
set_option linter.unusedVariables false
set_option linter.unusedSimpArgs false
set_option linter.unnecessarySimpa false
namespace Go.Proofs.Ytnmocjhpbobahaa.L
open Go Go.RowKit
set_option maxRecDepth 100000
set_option maxHeartbeats 4000000
attribute [local simp] bT bF
/-- Has each of the first i that is in three neighbours? -/
def allT (t : Tbl) : Nat → Bool
  | 0 => true
  | i + 1 => allT t i && (!(nthB t.inn i) || decide ((nearT t i t.inn.length).length = 3))
theorem allT_no {t : Tbl} {i : Nat} (h : allT t i = false) : ∀ j, i ≤ j → allT t j = false
  | 0, hj => by obtain rfl : i = 0 := by omega
                exact h
  | j + 1, hj => by
    by_cases e : i = j + 1
    · subst e; exact h
    · rw [allT, allT_no h j (by omega)]; rfl
def fourT (t : Tbl) : Bool := decide (cntT t t.inn.length = 4) && allT t t.inn.length
noncomputable abbrev EFourT : Env := ext (ext env0 58 specCountT) 59 specNearT
theorem wFourT (n : Nat) (t : Tbl) (ht : TbOk n t) (hn : n ≤ 1000000) : ∃ c, Try.f34.body = some c ∧ RP (regOf Try.prog EFourT 30 u34) c (argsSt 0 [tbf t]) (endsAs Try.prog Try.f34 (bv (fourT t))) := by
  refine ⟨_, rfl, ?_⟩
  generalize hQ : endsAs Try.prog Try.f34 (bv (fourT t)) = Q
  simp only [argsSt]
  have c1 := ht.inn
  have hg : TbGood t := ⟨by rw [c1]; exact ht, by omega⟩
  by_cases h4 : cntT t t.inn.length = 4
  case neg =>
    rw [show fourT t = false by unfold fourT; rw [decide_eq_false h4]; rfl] at hQ
    refine go ?_
    show Q .ret _; refine fin_ret hQ rfl ?_
    rfl
  refine go ?_
  apply rp_loop (fun k σ => ∃ i : Nat, i ≤ n ∧ k = n - i ∧ allT t i = true ∧ σ = [(0, tbf t), (3, iv i)]) n
  · exact ⟨0, by omega, by omega, rfl, rfl⟩
  rintro k σ ⟨i, hi, rfl, hall, rfl⟩
  by_cases hil : i < n
  · have i1 : i < t.inn.length := by omega
    have hb : TbHas t i := ⟨n, ht, hn, hil⟩
    have hle := nearT_le t i t.inn.length
    cases h1 : nthB t.inn i with
    | false =>
      have e : allT t (i + 1) = true := by rw [allT, hall, h1]; rfl
      refine go ?_
      exact nxt (n - (i + 1)) (by omega) ⟨i + 1, by omega, rfl, e, rfl⟩
    | true =>
      by_cases h3 : (nearT t i t.inn.length).length = 3
      · have e : allT t (i + 1) = true := by rw [allT, hall, h1, decide_eq_true h3]; rfl
        refine go ?_
        exact nxt (n - (i + 1)) (by omega) ⟨i + 1, by omega, rfl, e, rfl⟩
      · have e : allT t (i + 1) = false := by rw [allT, hall, h1, decide_eq_false h3]; rfl
        rw [show fourT t = false by unfold fourT; rw [allT_no e _ (by omega), Bool.and_false]] at hQ
        refine go ?_
        show Q .ret _; refine fin_ret hQ rfl ?_
        rfl
  obtain rfl : i = n := by omega
  rw [show fourT t = true by unfold fourT; rw [decide_eq_true h4, c1, hall]; rfl] at hQ
  refine go ?_
  show Q .ret _; refine fin_ret hQ rfl ?_
  rfl
theorem EFourT_ok : EnvOk Try.prog EFourT := ext_ok (ext_ok env0_ok okCountT) okNearT
noncomputable def specFourT : Spec := fun us => match us with
  | [x] => match asTb x with
    | some t => whenC (TbGood t) (bv (fourT t))
    | _ => none
  | _ => none
theorem okFourT : SpecOk 34 specFourT := by
  intro us R h
  unfold specFourT at h
  split at h
  · split at h
    · next x _ t h1 =>
      obtain ⟨⟨h3, h4⟩, rfl⟩ := whenC_eq h
      rw [asTb_eq h1]
      exact goodBy2 EFourT_ok Try.func34 rfl (Nat.le_of_ble_eq_true rfl) (by decide) (wFourT _ t h3 h4)
    · cases h
  · cases h
@[simp] theorem sFourT {t : Tbl} (h : TbGood t) : specFourT [⟨.one, [.c (tbF t)]⟩] = some (bv (fourT t)) := by
  unfold specFourT
  simp only [asTb_tb]
  exact whenC_pos _ h
@[simp] theorem callFourT {E : Env} {σ : St Unit} {t : Nat} {l : List Operand} : effCall Try.prog E ΩU σ t 34 l = callO E 34 t (argsOf Try.prog ΩU σ [70] l) := eff_call Try.func34 Try.params34
/-! ### Fits -/
def mkT (t : Tbl) (m : Int) : Nat → Int
  | 0 => 0
  | i + 1 => if nthB t.inn i = true ∧ nth t.mark i = m then mkT t m i + 1 else mkT t m i
theorem mkT_le (t : Tbl) (m : Int) (i : Nat) : 0 ≤ mkT t m i ∧ mkT t m i ≤ i := by
  induction i with
  | zero => exact ⟨Int.le_refl _, Int.le_refl _⟩
  | succ i ih => rw [mkT]; split <;> omega
def fitT (t : Tbl) : Bool := decide (mkT t 2 t.inn.length ≤ 1 ∧ mkT t 1 t.inn.length ≤ 3)
theorem wFitT (n : Nat) (t : Tbl) (ht : TbOk n t) (hn : n ≤ 1000000) : ∃ c, Try.f35.body = some c ∧ RP (regOf Try.prog env0 59 u35) c (argsSt 0 [tbf t]) (endsAs Try.prog Try.f35 (bv (fitT t))) := by
  refine ⟨_, rfl, ?_⟩
  generalize hQ : endsAs Try.prog Try.f35 (bv (fitT t)) = Q
  simp only [argsSt]
  have c1 := ht.inn
  have c2 := ht.mark
  refine go ?_
  apply rp_loop (fun k σ => ∃ i : Nat, i ≤ n ∧ k = n - i ∧ σ = [(0, tbf t), (3, iv (mkT t 1 i)), (4, iv (mkT t 2 i)), (5, iv i)]) n
  · exact ⟨0, by omega, by omega, rfl⟩
  rintro k σ ⟨i, hi, rfl, rfl⟩
  have l1 := mkT_le t 1 i
  have l2 := mkT_le t 2 i
  by_cases hil : i < n
  · have i1 : i < t.inn.length := by omega
    have i2 : i < t.mark.length := by omega
    cases h1 : nthB t.inn i with
    | false =>
      have e : ∀ m, mkT t m (i + 1) = mkT t m i := fun m => by rw [mkT, if_neg (by rw [h1]; rintro ⟨h, _⟩; cases h)]
      refine go ?_
      exact nxt (n - (i + 1)) (by omega) ⟨i + 1, by omega, rfl, by rw [e, e]; rfl⟩
    | true =>
      rcases (by omega : nth t.mark i = 1 ∨ nth t.mark i = 2 ∨ (¬ nth t.mark i = 1 ∧ ¬ nth t.mark i = 2)) with h | h | ⟨h, h'⟩
      · have e1 : mkT t 1 (i + 1) = mkT t 1 i + 1 := by rw [mkT, if_pos ⟨h1, h⟩]
        have e2 : mkT t 2 (i + 1) = mkT t 2 i := by rw [mkT, if_neg (by rintro ⟨_, q⟩; omega)]
        refine go ?_
        exact nxt (n - (i + 1)) (by omega) ⟨i + 1, by omega, rfl, by rw [e1, e2]; rfl⟩
      · have e1 : mkT t 1 (i + 1) = mkT t 1 i := by rw [mkT, if_neg (by rintro ⟨_, q⟩; omega)]
        have e2 : mkT t 2 (i + 1) = mkT t 2 i + 1 := by rw [mkT, if_pos ⟨h1, h⟩]
        refine go ?_
        exact nxt (n - (i + 1)) (by omega) ⟨i + 1, by omega, rfl, by rw [e1, e2]; rfl⟩
      · have e1 : mkT t 1 (i + 1) = mkT t 1 i := by rw [mkT, if_neg (by rintro ⟨_, q⟩; omega)]
        have e2 : mkT t 2 (i + 1) = mkT t 2 i := by rw [mkT, if_neg (by rintro ⟨_, q⟩; omega)]
        refine go ?_
        exact nxt (n - (i + 1)) (by omega) ⟨i + 1, by omega, rfl, by rw [e1, e2]; rfl⟩
  obtain rfl : i = n := by omega
  by_cases h1 : mkT t 2 i ≤ 1
  · by_cases h2 : mkT t 1 i ≤ 3
    · rw [show fitT t = true by unfold fitT; rw [c1]; exact decide_eq_true ⟨h1, h2⟩] at hQ
      refine go ?_
      show Q .ret _; refine fin_ret hQ rfl ?_
      rfl
    · rw [show fitT t = false by unfold fitT; rw [c1]; exact decide_eq_false (fun h => h2 h.2)] at hQ
      refine go ?_
      show Q .ret _; refine fin_ret hQ rfl ?_
      rfl
  · rw [show fitT t = false by unfold fitT; rw [c1]; exact decide_eq_false (fun h => h1 h.1)] at hQ
    refine go ?_
    show Q .ret _; refine fin_ret hQ rfl ?_
    rfl
noncomputable def specFitT : Spec := fun us => match us with
  | [x] => match asTb x with
    | some t => whenC (TbGood t) (bv (fitT t))
    | _ => none
  | _ => none
theorem okFitT : SpecOk 35 specFitT := by
  intro us R h
  unfold specFitT at h
  split at h
  · split at h
    · next x _ t h1 =>
      obtain ⟨⟨h3, h4⟩, rfl⟩ := whenC_eq h
      rw [asTb_eq h1]
      exact goodBy2 env0_ok Try.func35 rfl (Nat.le_of_ble_eq_true rfl) (by decide) (wFitT _ t h3 h4)
    · cases h
  · cases h
@[simp] theorem sFitT {t : Tbl} (h : TbGood t) : specFitT [⟨.one, [.c (tbF t)]⟩] = some (bv (fitT t)) := by
  unfold specFitT
  simp only [asTb_tb]
  exact whenC_pos _ h
@[simp] theorem callFitT {E : Env} {σ : St Unit} {t : Nat} {l : List Operand} : effCall Try.prog E ΩU σ t 35 l = callO E 35 t (argsOf Try.prog ΩU σ [70] l) := eff_call Try.func35 Try.params35
end Go.Proofs.Ytnmocjhpbobahaa.L
namespace Go.Proofs.Ytnmocjhpbobahaa.L
open Go Go.RowKit
set_option maxRecDepth 100000
abbrev il3 (x y z : Int) : List (Cell Unit) := [.sc (.int .i64 x), .sc (.int .i64 y), .sc (.int .i64 z)]
@[simp] theorem sMin3 (x y z : Int) : specMin [⟨.one, [.c (.sl false 1 () (il3 x y z))]⟩] = some (iv (minL [x, y, z])) := sMin [x, y, z] (by simp) (by simp)
@[simp] theorem sMax3 (x y z : Int) : specMax [⟨.one, [.c (.sl false 1 () (il3 x y z))]⟩] = some (iv (maxL [x, y, z])) := sMax [x, y, z] (by simp) (by simp)
@[simp] theorem sIndex3 (x y z v : Int) : specIndex [⟨.one, [.c (.sl false 1 () (il3 x y z))]⟩, iv v] = some (iv (idxI [x, y, z] v)) := sIndex [x, y, z] v (by simp)
/-- Is it one of three? -/
def in3 (a b c x : Int) : Bool := decide (x ∈ [a, b, c])
theorem in3_iff {a b c x : Int} : in3 a b c x = true ↔ x = a ∨ x = b ∨ x = c := by simp [in3]
@[simp] theorem sContains3 (x y z v : Int) : specContains [⟨.one, [.c (.sl false 1 () (il3 x y z))]⟩, iv v] = some (bv (in3 x y z v)) := sContains [x, y, z] v (by simp)
/-! ### a number out of an array's value (four) -/
def idx4 (u v : Option Value) (t : Nat) (z : Option (Eff Unit)) : Option (Eff Unit) := match u, v with
  | some (.agg ⟨[.int .i64 a, .int .i64 b, .int .i64 c, .int .i64 e]⟩), some (.int .i64 i) => if i = 0 then some (effP t (iv a)) else if i = 1 then some (effP t (iv b)) else if i = 2 then some (effP t (iv c)) else if i = 3 then some (effP t (iv e)) else z
  | _, _ => z
@[simp] theorem idx4_i (a b c e i : Int) (t : Nat) (z : Option (Eff Unit)) : idx4 (some (.agg #[.int .i64 a, .int .i64 b, .int .i64 c, .int .i64 e])) (some (.int .i64 i)) t z = if i = 0 then some (effP t (iv a)) else if i = 1 then some (effP t (iv b)) else if i = 2 then some (effP t (iv c)) else if i = 3 then some (effP t (iv e)) else z := rfl
section
variable {σ : St Unit} {t : Nat} {x y : Operand} {d : Option Nat} {ty : TypeId} {pos : String} {af : Array Edge} {g : Option (Nat × Bool)}
theorem sem_idx4 {ρ : Operand → Value} {a b c e i : Int} (hx : ρ x = .agg #[.int .i64 a, .int .i64 b, .int .i64 c, .int .i64 e]) (hy : ρ y = .int .i64 i) : (i = 0 → pv Try.prog (execOp ρ ⟨d, .index 120 x y, ty, pos, af, g⟩) = some (.value (.int .i64 a))) ∧ (i = 1 → pv Try.prog (execOp ρ ⟨d, .index 120 x y, ty, pos, af, g⟩) = some (.value (.int .i64 b))) ∧ (i = 2 → pv Try.prog (execOp ρ ⟨d, .index 120 x y, ty, pos, af, g⟩) = some (.value (.int .i64 c))) ∧ (i = 3 → pv Try.prog (execOp ρ ⟨d, .index 120 x y, ty, pos, af, g⟩) = some (.value (.int .i64 e))) := by
  refine ⟨?_, ?_, ?_, ?_⟩ <;> (rintro rfl; simp only [execOp, hx, hy]; kernel_rfl)
@[simp] theorem eff_idx4 : effPure Try.prog σ t ⟨d, .index 120 x y, ty, pos, af, g⟩ = idx4 (valOf σ x) (valOf σ y) t (effZ Try.prog σ t ⟨d, .index 120 x y, ty, pos, af, g⟩) := by
  unfold idx4
  split
  · next a b c e i hx hy =>
    have key : ∀ v, pv Try.prog (execOp (fun x => (valOf σ x).getD undef) ⟨d, .index 120 x y, ty, pos, af, g⟩) = some (.value (.int .i64 v)) → effPure Try.prog σ t ⟨d, .index 120 x y, ty, pos, af, g⟩ = some (effP t (iv v)) := by
      intro v h
      unfold effPure
      rw [if_pos (by simp [pureOp, Op.operands, hx, hy, -valOf]), h]
      rfl
    obtain ⟨h0, h1, h2, h3⟩ := sem_idx4 (x := x) (y := y) (d := d) (ty := ty) (pos := pos) (af := af) (g := g) (ρ := fun x => (valOf σ x).getD undef) (a := a) (b := b) (c := c) (e := e) (i := i) (by show (valOf σ x).getD undef = _; rw [hx]; rfl) (by show (valOf σ y).getD undef = _; rw [hy]; rfl)
    split
    · next q => exact key a (h0 q)
    · split
      · next q => exact key b (h1 q)
      · split
        · next q => exact key c (h2 q)
        · split
          · next q => exact key e (h3 q)
          · rfl
  · rfl
end
/-! ### all of an array of three as a slice -/
def sliceO (t : Nat) : Option (Ad Unit) → Option (Eff Unit)
  | some (.own r p off) => some (effP t ⟨.one, [.ref r p off (some (3, 1))]⟩)
  | _ => none
@[simp] theorem sliceO_own (t r : Nat) (p : List Nat) (off : Nat) : sliceO t (some (.own r p off)) = some (effP t ⟨.one, [.ref r p off (some (3, 1))]⟩) := rfl
@[simp] theorem eff_sliceArr {σ : St Unit} {t s : Nat} : effSliceArr Try.prog σ t 82 (.tmp s) none none none = sliceO t (adOf σ (.tmp s)) := by
  unfold effSliceArr sliceO
  rw [und82]
  cases adOf σ (.tmp s) with
  | none => rfl
  | some x => cases x <;> rfl
def HasOk (r : Rst) (a : Nat) : Prop := ∃ n : Nat, RstOk n r ∧ n ≤ 1000000 ∧ a < n
@[simp] theorem sHasR {r : Rst} {a : Nat} {b : Int} (h : HasOk r a) : specHas [⟨.one, [.c (rstF r)]⟩, iv a, iv b] = some (bv (decide (b ∈ nthR r.near a))) := by
  obtain ⟨n, h1, h2, h3⟩ := h
  exact sHas h1 h2 a b h3
/-- No leaf. -/
def innB (r : Rst) (a : Nat) : Bool := decide (nth r.mark a = 2 ∨ 3 < (nthR r.near a).length)
@[simp] theorem sInnerR {r : Rst} {a : Nat} (h : HasOk r a) : specInner [⟨.one, [.c (rstF r)]⟩, iv a] = some (bv (innB r a)) := by
  obtain ⟨n, h1, h2, h3⟩ := h
  exact sInner h1 h2 a h3
theorem idx3_0 (q s : Int) : idxI [(-1 : Int), q, s] (-1) = 0 := by simp [idxI]
theorem idx3_1 (p : Nat) (s : Int) : idxI [(p : Int), -1, s] (-1) = 1 := by
  have : ((p : Int) == -1) = false := beq_false_of_ne (by omega)
  simp [idxI, List.idxOf_cons, this]
theorem idx3_2 (p q : Nat) : idxI [(p : Int), (q : Int), -1] (-1) = 2 := by
  have h1 : ((p : Int) == -1) = false := beq_false_of_ne (by omega)
  have h2 : ((q : Int) == -1) = false := beq_false_of_ne (by omega)
  simp [idxI, List.idxOf_cons, h1, h2]
/-- The last of the first i that is none of the three. -/
def outN (a b c : Int) (row : List Int) : Nat → Int
  | 0 => -1
  | i + 1 => if in3 a b c (nth row i) then outN a b c row i else nth row i
def outV (r : Rst) (a b c v : Nat) : Int := if (nthR r.near v).length = 3 then outN a b c (nthR r.near v) 3 else -1
def isT (r : Rst) (v : Nat) : Int := if (nthR r.near v).length = 3 then 1 else 0
/-- The cut of three vertices. -/
def cutF (r : Rst) (a b c : Nat) : Cu × Bool :=
  if r.count ≤ 4 ∨ (b : Int) ∉ nthR r.near a ∨ (c : Int) ∉ nthR r.near a ∨ (c : Int) ∉ nthR r.near b then ((0, 0, 0, 0, 0, 0), false)
  else ((a, b, c, outV r a b c a, outV r a b c b, outV r a b c c), decide (2 ≤ isT r a + isT r b + isT r c))
abbrev cutB (e : Cu) (b : Bool) : SV Unit := ⟨.tup [some 6, none], [.c (.sc (.int .i64 e.1)), .c (.sc (.int .i64 e.2.1)), .c (.sc (.int .i64 e.2.2.1)), .c (.sc (.int .i64 e.2.2.2.1)), .c (.sc (.int .i64 e.2.2.2.2.1)), .c (.sc (.int .i64 e.2.2.2.2.2)), .c (.sc (.bool b))]⟩
/-- A cut with an apex u; x is below y; s and t are their outer neighbours. -/
def wideF (r : Rst) (u x y s t : Nat) : Rst × Bool :=
  if s = t ∨ innB r x = true ∨ innB r y = true ∨ innB r s = true ∨ innB r t = true then (r, false)
  else (⟨((r.leave y).join x t).near, (((((r.leave y).join x t).mark.set u 2).set x 1).set s 1).set t 1, ((r.leave y).join x t).gone, ((r.leave y).join x t).count⟩, true)
end Go.Proofs.Ytnmocjhpbobahaa.L
namespace Go.Proofs.Ytnmocjhpbobahaa.L
open Go Go.RowKit
set_option maxRecDepth 100000
set_option maxHeartbeats 4000000
def leftF (r : Rst) : Nat → List Int
  | 0 => []
  | i + 1 => if nthB r.gone i = true then leftF r i else leftF r i ++ [(i : Int)]
def marksF (r : Rst) : Nat → List Int
  | 0 => []
  | i + 1 => if nthB r.gone i = true then marksF r i else marksF r i ++ [nth r.mark i]
def upF (row : List Int) (v : Nat) : Nat → List (Int × Int)
  | 0 => []
  | j + 1 => if (v : Int) < nth row j then upF row v j ++ [((v : Int), nth row j)] else upF row v j
def edgesF (r : Rst) : Nat → List (Int × Int)
  | 0 => []
  | i + 1 => if nthB r.gone i = true then edgesF r i else edgesF r i ++ upF (nthR r.near i) i (nthR r.near i).length
abbrev stV (l : List Int) (e : List (Int × Int)) (m : List Int) : SV Unit := ⟨.agg, [.c (.sl true 1 () (IL l)), .c (.sl true 2 () (EL e)), .c (.sl true 1 () (IL m))]⟩
def StateOk (r : Rst) : Prop := RstOk r.near.length r ∧ r.near.length ≤ 1000
noncomputable def specState : Spec := fun us => match us with
  | [x] => match asRst x with
    | some r => whenC (StateOk r) (stV (leftF r r.near.length) (edgesF r r.near.length) (marksF r r.near.length))
    | _ => none
  | _ => none
@[simp] theorem sStateR {r : Rst} (h : StateOk r) : specState [⟨.one, [.c (rstF r)]⟩] = some (stV (leftF r r.near.length) (edgesF r r.near.length) (marksF r r.near.length)) := by
  unfold specState
  simp only [asRst_rst]
  exact whenC_pos _ h
@[simp] theorem callState {E : Env} {σ : St Unit} {t : Nat} {l : List Operand} : effCall Try.prog E ΩU σ t 38 l = callO E 38 t (argsOf Try.prog ΩU σ [63] l) := eff_call Try.func38 Try.params38
end Go.Proofs.Ytnmocjhpbobahaa.L
namespace Go.Proofs.Ytnmocjhpbobahaa.L
open Go Go.RowKit
set_option maxRecDepth 100000
set_option maxHeartbeats 4000000
attribute [local simp] bT bF
def leftT (t : Tbl) : Nat → List Int
  | 0 => []
  | i + 1 => if nthB t.inn i = true then leftT t i ++ [(i : Int)] else leftT t i
def marksT (t : Tbl) : Nat → List Int
  | 0 => []
  | i + 1 => if nthB t.inn i = true then marksT t i ++ [nth t.mark i] else marksT t i
/-- The edges from v up, of the j from v + 1 on. -/
def upT (t : Tbl) (v : Nat) : Nat → List (Int × Int)
  | 0 => []
  | j + 1 => if nthB t.inn (v + 1 + j) = true ∧ nthB (nthT t.adj v) (v + 1 + j) = true then upT t v j ++ [((v : Int), ((v + 1 + j : Nat) : Int))] else upT t v j
def edgesT (t : Tbl) (n : Nat) : Nat → List (Int × Int)
  | 0 => []
  | i + 1 => if nthB t.inn i = true then edgesT t n i ++ upT t i (n - (i + 1)) else edgesT t n i
def StateT (t : Tbl) : Prop := TbOk t.inn.length t ∧ t.inn.length ≤ 1000
noncomputable def specStateT : Spec := fun us => match us with
  | [x] => match asTb x with
    | some t => whenC (StateT t) (stV (leftT t t.inn.length) (edgesT t t.inn.length t.inn.length) (marksT t t.inn.length))
    | _ => none
  | _ => none
@[simp] theorem sStateT {t : Tbl} (h : StateT t) : specStateT [⟨.one, [.c (tbF t)]⟩] = some (stV (leftT t t.inn.length) (edgesT t t.inn.length t.inn.length) (marksT t t.inn.length)) := by
  unfold specStateT
  simp only [asTb_tb]
  exact whenC_pos _ h
@[simp] theorem callStateT {E : Env} {σ : St Unit} {t : Nat} {l : List Operand} : effCall Try.prog E ΩU σ t 40 l = callO E 40 t (argsOf Try.prog ΩU σ [70] l) := eff_call Try.func40 Try.params40
end Go.Proofs.Ytnmocjhpbobahaa.L
