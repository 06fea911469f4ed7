/- R28: rest.four. RB: the type want. -/
import Derived.Test.YtnmocjhpbobahaaY16
set_option linter.unusedVariables false
set_option linter.unusedSimpArgs false
set_option linter.unnecessarySimpa false
namespace Go.Proofs.Ytnmocjhpbobahaa.L
open Go Go.RowKit
set_option maxRecDepth 100000
set_option maxHeartbeats 4000000
/-- How many of the first i that are left bear a mark; how many neighbours they have. -/
def cntM (r : Rst) (m : Int) : Nat → Int
  | 0 => 0
  | i + 1 => if nthB r.gone i = true then cntM r m i else if nth r.mark i = m then cntM r m i + 1 else cntM r m i
def edgE (r : Rst) : Nat → Int
  | 0 => 0
  | i + 1 => if nthB r.gone i = true then edgE r i else edgE r i + (nthR r.near i).length
theorem cntM_le (r : Rst) (m : Int) (i : Nat) : 0 ≤ cntM r m i ∧ cntM r m i ≤ i := by
  induction i with
  | zero => exact ⟨by simp [cntM], by simp [cntM]⟩
  | succ i ih =>
    unfold cntM
    split
    · omega
    · split <;> omega
theorem edgE_le {n : Nat} {r : Rst} (hr : RstOk n r) (hn : n ≤ 1000000) (i : Nat) (hi : i ≤ n) : 0 ≤ edgE r i ∧ edgE r i ≤ 1000000 * i := by
  induction i with
  | zero => exact ⟨by simp [edgE], by simp [edgE]⟩
  | succ i ih =>
    have := ih (by omega)
    have := hr.len (show i < n by omega)
    unfold edgE; split <;> omega
abbrev twoB (a b : Bool) : SV Unit := ⟨.tup [none, none], [.c (.sc (.bool a)), .c (.sc (.bool b))]⟩
theorem mk0 {l : List Int} {i : Nat} (h : nth l i = 0) : nth l i = 0 := h
theorem mk1 {l : List Int} {i : Nat} (h : nth l i = 1) : nth l i = 1 := h
theorem mk2 {l : List Int} {i : Nat} (h : nth l i = 2) : nth l i = 2 := h
attribute [local simp] mk0 mk1 mk2
theorem wFour (n : Nat) (r : Rst) (hr : RstOk n r) (hn : n ≤ 1000000) (hm : ∀ v, v < n → nth r.mark v = 0 ∨ nth r.mark v = 1 ∨ nth r.mark v = 2) : ∃ c, Try.f28.body = some c ∧ RP (regOf Try.prog env0 60 u28) c (argsSt 0 [rf r]) (endsAs Try.prog Try.f28 (twoB (decide (r.count = 4 ∧ edgE r n = 12)) (decide (cntM r 2 n ≤ 1 ∧ cntM r 1 n ≤ 3)))) := by
  refine ⟨_, rfl, ?_⟩
  generalize hQ : endsAs Try.prog Try.f28 (twoB (decide (r.count = 4 ∧ edgE r n = 12)) (decide (cntM r 2 n ≤ 1 ∧ cntM r 1 n ≤ 3))) = Q
  simp only [argsSt]
  have c1 := hr.near
  have c2 := hr.mark
  have c3 := hr.gone
  refine go ?_
  apply rp_loop (fun k σ => ∃ i : Nat, i ≤ n ∧ k = n - i ∧ ∃ x y z e : Int, x = cntM r 0 i ∧ y = cntM r 1 i ∧ z = cntM r 2 i ∧ e = edgE r i ∧ σ = [(0, rf r), (4, ⟨.one, [.c (.bx true () [.sc (.int .i64 x), .sc (.int .i64 y), .sc (.int .i64 z)])]⟩), (5, iv e), (12, rows r.near), (13, iv r.near.length), (14, iv i)]) n
  · exact ⟨0, by omega, by omega, 0, 0, 0, 0, rfl, rfl, rfl, rfl, rfl⟩
  rintro k σ ⟨i, hi, rfl, x, y, z, e, hx, hy, hz, he, rfl⟩
  have bx := cntM_le r 0 i
  have byy := cntM_le r 1 i
  have bz := cntM_le r 2 i
  have be := edgE_le hr hn i hi
  rw [← hx] at bx
  rw [← hy] at byy
  rw [← hz] at bz
  rw [← he] at be
  by_cases hil : i < n
  · have hl := hr.len hil
    have i1 : i < r.near.length := by omega
    have i2 : i < r.mark.length := by omega
    have i3 : i < r.gone.length := by omega
    cases hg : nthB r.gone i with
    | true =>
      refine go ?_
      simp only [hg]
      refine go ?_
      exact nxt (n - (i + 1)) (by omega) ⟨i + 1, by omega, rfl, x, y, z, e, by simp [cntM, hg, hx], by simp [cntM, hg, hy], by simp [cntM, hg, hz], by simp [edgE, hg, he], rfl⟩
    | false =>
      refine go ?_
      simp only [hg]
      refine go ?_
      rcases hm i hil with h | h | h
      · refine go ?_
        exact nxt (n - (i + 1)) (by omega) ⟨i + 1, by omega, rfl, x + 1, y, z, e + (nthR r.near i).length, by simp [cntM, hg, hx, h], by simp [cntM, hg, hy, h], by simp [cntM, hg, hz, h], by simp [edgE, hg, he], rfl⟩
      · refine go ?_
        exact nxt (n - (i + 1)) (by omega) ⟨i + 1, by omega, rfl, x, y + 1, z, e + (nthR r.near i).length, by simp [cntM, hg, hx, h], by simp [cntM, hg, hy, h], by simp [cntM, hg, hz, h], by simp [edgE, hg, he], rfl⟩
      · refine go ?_
        exact nxt (n - (i + 1)) (by omega) ⟨i + 1, by omega, rfl, x, y, z + 1, e + (nthR r.near i).length, by simp [cntM, hg, hx, h], by simp [cntM, hg, hy, h], by simp [cntM, hg, hz, h], by simp [edgE, hg, he], rfl⟩
  obtain rfl : i = n := by omega
  rw [← he, ← hy, ← hz] at hQ
  refine go ?_
  rcases (by omega : r.count = 4 ∧ z ≤ 1 ∨ r.count = 4 ∧ ¬ z ≤ 1 ∨ ¬ r.count = 4 ∧ z ≤ 1 ∨ ¬ r.count = 4 ∧ ¬ z ≤ 1) with ⟨h1, h2⟩ | ⟨h1, h2⟩ | ⟨h1, h2⟩ | ⟨h1, h2⟩
  · rw [show decide (r.count = 4 ∧ e = 12) = decide (e = 12) by simp [h1], show decide (z ≤ 1 ∧ y ≤ 3) = decide (y ≤ 3) by simp [h2]] at hQ
    refine go ?_
    show Q .ret _; refine fin_ret hQ rfl ?_
    rfl
  · rw [show decide (r.count = 4 ∧ e = 12) = decide (e = 12) by simp [h1], show decide (z ≤ 1 ∧ y ≤ 3) = false by simp [h2]] at hQ
    refine go ?_
    show Q .ret _; refine fin_ret hQ rfl ?_
    rfl
  · rw [show decide (r.count = 4 ∧ e = 12) = false by simp [h1], show decide (z ≤ 1 ∧ y ≤ 3) = decide (y ≤ 3) by simp [h2]] at hQ
    refine go ?_
    show Q .ret _; refine fin_ret hQ rfl ?_
    rfl
  · rw [show decide (r.count = 4 ∧ e = 12) = false by simp [h1], show decide (z ≤ 1 ∧ y ≤ 3) = false by simp [h2]] at hQ
    refine go ?_
    show Q .ret _; refine fin_ret hQ rfl ?_
    rfl
def FourOk (r : Rst) : Prop := RstOk r.near.length r ∧ r.near.length ≤ 1000000 ∧ ∀ v, v < r.near.length → nth r.mark v = 0 ∨ nth r.mark v = 1 ∨ nth r.mark v = 2
noncomputable def specFour : Spec := fun us => match us with
  | [x] => match asRst x with
    | some r => whenC (FourOk r) (twoB (decide (r.count = 4 ∧ edgE r r.near.length = 12)) (decide (cntM r 2 r.near.length ≤ 1 ∧ cntM r 1 r.near.length ≤ 3)))
    | _ => none
  | _ => none
theorem okFour : SpecOk 28 specFour := by
  intro us R h
  unfold specFour at h
  split at h
  · split at h
    · next x _ r h1 =>
      obtain ⟨⟨h2, h3, h4⟩, rfl⟩ := whenC_eq h
      rw [asRst_eq h1]
      exact goodBy2 env0_ok Try.func28 rfl (Nat.le_of_ble_eq_true rfl) (by decide) (wFour _ r h2 h3 h4)
    · cases h
  · cases h
@[simp] theorem sFour {r : Rst} (h : FourOk r) : specFour [⟨.one, [.c (rstF r)]⟩] = some (twoB (decide (r.count = 4 ∧ edgE r r.near.length = 12)) (decide (cntM r 2 r.near.length ≤ 1 ∧ cntM r 1 r.near.length ≤ 3))) := by
  unfold specFour
  simp only [asRst_rst]
  exact whenC_pos _ h
@[simp] theorem callFour {E : Env} {σ : St Unit} {t : Nat} {l : List Operand} : effCall Try.prog E ΩU σ t 28 l = callO E 28 t (argsOf Try.prog ΩU σ [63] l) := eff_call Try.func28 Try.params28
end Go.Proofs.Ytnmocjhpbobahaa.L
namespace Go.Proofs.Ytnmocjhpbobahaa.L
open Go Go.RowKit
set_option maxRecDepth 100000
@[simp] theorem undW : Try.prog.underlying 102 = some (.struct #[⟨"v", 3, 0, false, "", "carcanet/rim", 0⟩, ⟨"mark", 3, 1, false, "", "carcanet/rim", 8⟩]) := by kernel_rfl
@[simp] theorem cellsW : Try.prog.cellsOf 102 = 2 := by kernel_rfl
@[simp] theorem bytesW : Try.prog.bytesOf 102 = 16 := by kernel_rfl
@[simp] theorem zokW : zeroOk Try.prog 102 = true := by kernel_rfl
@[simp] theorem zeroW : zeroCellsOf Try.prog () 102 = some [.sc (.int .i64 0), .sc (.int .i64 0)] := by kernel_rfl
@[simp] theorem infosW : infosOk Try.prog 102 = true := by kernel_rfl
@[simp] theorem undWs : Try.prog.underlying 96 = some (.slice 102) := by kernel_rfl
@[simp] theorem cellsWs : Try.prog.cellsOf 96 = 1 := by kernel_rfl
@[simp] theorem zeroWs : zeroCellsOf Try.prog () 96 = some [.sl true 2 () []] := by kernel_rfl
/-- How many of a row bear a mark. -/
def ct (r : Rst) (m : Int) (v : Nat) : Int := if nth r.mark v = m then 1 else 0
/-- What a small cut asks: the row of who is to be marked, and how. -/
def apexB (r : Rst) (i2 : Int) (v : Nat) : Bool := decide (nth r.mark v = 2 ∨ (i2 = 0 ∧ nth r.mark v ≠ 1))
def wantOne (r : Rst) (i2 : Int) (dec : Bool) (v : Nat) (o : Int) : List (Int × Int) :=
  if dec = true ∧ apexB r i2 v = true then [(o, 2)] else if dec = true ∨ nth r.mark v = 1 then [(o, 1)] else []
def badW (r : Rst) (w : Int × Int) : Bool := decide (w.2 = 2 ∧ nth r.mark w.1.toNat = 1) || (decide (w.2 = 1) && innB r w.1.toNat)
def cnt3 (r : Rst) (m : Int) (a b c : Nat) : Int := ct r m a + ct r m b + ct r m c
def wantsAll (r : Rst) (a b c p q s : Nat) : List (Int × Int) :=
  wantOne r (cnt3 r 2 a b c) (decide (cnt3 r 2 a b c = 1 ∨ cnt3 r 1 a b c = 2)) a p ++ wantOne r (cnt3 r 2 a b c) (decide (cnt3 r 2 a b c = 1 ∨ cnt3 r 1 a b c = 2)) b q ++ wantOne r (cnt3 r 2 a b c) (decide (cnt3 r 2 a b c = 1 ∨ cnt3 r 1 a b c = 2)) c s
def wantsF (r : Rst) (a b c p q s : Nat) : List (Int × Int) × Bool :=
  if p = q ∨ p = s ∨ q = s ∨ 1 < cnt3 r 2 a b c ∨ 2 < cnt3 r 1 a b c ∨ (wantsAll r a b c p q s).any (badW r) = true then ([], false) else (wantsAll r a b c p q s, true)
abbrev wnB (l : List (Int × Int)) (b : Bool) : SV Unit := ⟨.tup [none, none], [.c (.sl true 2 () (EL l)), .c (.sc (.bool b))]⟩
end Go.Proofs.Ytnmocjhpbobahaa.L
