/- R28: rest.four. RB: the type want. RC: what a cut is, as a plain law. R53a: rest.wants. -/
import Derived.Test.YtnmocjhpbobahaaQ13
import Derived.Test.YtnmocjhpbobahaaQ14
set_option linter.unusedVariables false
set_option linter.unusedSimpArgs false
set_option linter.unnecessarySimpa false
namespace Go.Proofs.Ytnmocjhpbobahaa.L
open Go Go.RowKit
set_option maxRecDepth 100000
set_option maxHeartbeats 4000000
/-- How many of the first i that are left bear a mark; how many neighbours they have. -/
def cntM (r : Rst) (m : Int) : Nat → Int
  | 0 => 0
  | i + 1 => if nthB r.gone i = true then cntM r m i else if nth r.mark i = m then cntM r m i + 1 else cntM r m i
def edgE (r : Rst) : Nat → Int
  | 0 => 0
  | i + 1 => if nthB r.gone i = true then edgE r i else edgE r i + (nthR r.near i).length
abbrev twoB (a b : Bool) : SV Unit := ⟨.tup [none, none], [.c (.sc (.bool a)), .c (.sc (.bool b))]⟩
theorem mk0 {l : List Int} {i : Nat} (h : nth l i = 0) : nth l i = 0 := h
theorem mk1 {l : List Int} {i : Nat} (h : nth l i = 1) : nth l i = 1 := h
theorem mk2 {l : List Int} {i : Nat} (h : nth l i = 2) : nth l i = 2 := h
attribute [local simp] mk0 mk1 mk2
def FourOk (r : Rst) : Prop := RstOk r.near.length r ∧ r.near.length ≤ 1000000 ∧ ∀ v, v < r.near.length → nth r.mark v = 0 ∨ nth r.mark v = 1 ∨ nth r.mark v = 2
noncomputable def specFour : Spec := fun us => match us with
  | [x] => match asRst x with
    | some r => whenC (FourOk r) (twoB (decide (r.count = 4 ∧ edgE r r.near.length = 12)) (decide (cntM r 2 r.near.length ≤ 1 ∧ cntM r 1 r.near.length ≤ 3)))
    | _ => none
  | _ => none
@[simp] theorem sFour {r : Rst} (h : FourOk r) : specFour [⟨.one, [.c (rstF r)]⟩] = some (twoB (decide (r.count = 4 ∧ edgE r r.near.length = 12)) (decide (cntM r 2 r.near.length ≤ 1 ∧ cntM r 1 r.near.length ≤ 3))) := by
  unfold specFour
  simp only [asRst_rst]
  exact whenC_pos _ h
@[simp] theorem callFour {E : Env} {σ : St Unit} {t : Nat} {l : List Operand} : effCall Try.prog E ΩU σ t 28 l = callO E 28 t (argsOf Try.prog ΩU σ [63] l) := eff_call Try.func28 Try.params28
end Go.Proofs.Ytnmocjhpbobahaa.L
namespace Go.Proofs.Ytnmocjhpbobahaa.L
open Go Go.RowKit
set_option maxRecDepth 100000
@[simp] theorem undW : Try.prog.underlying 102 = some (.struct #[⟨"v", 3, 0, false, "", "carcanet/rim", 0⟩, ⟨"mark", 3, 1, false, "", "carcanet/rim", 8⟩]) := by kernel_rfl
@[simp] theorem cellsW : Try.prog.cellsOf 102 = 2 := by kernel_rfl
@[simp] theorem bytesW : Try.prog.bytesOf 102 = 16 := by kernel_rfl
@[simp] theorem zokW : zeroOk Try.prog 102 = true := by kernel_rfl
@[simp] theorem zeroW : zeroCellsOf Try.prog () 102 = some [.sc (.int .i64 0), .sc (.int .i64 0)] := by kernel_rfl
@[simp] theorem infosW : infosOk Try.prog 102 = true := by kernel_rfl
@[simp] theorem undWs : Try.prog.underlying 96 = some (.slice 102) := by kernel_rfl
@[simp] theorem cellsWs : Try.prog.cellsOf 96 = 1 := by kernel_rfl
@[simp] theorem zeroWs : zeroCellsOf Try.prog () 96 = some [.sl true 2 () []] := by kernel_rfl
/-- How many of a row bear a mark. -/
def ct (r : Rst) (m : Int) (v : Nat) : Int := if nth r.mark v = m then 1 else 0
/-- What a small cut asks: the row of who is to be marked, and how. -/
def apexB (r : Rst) (i2 : Int) (v : Nat) : Bool := decide (nth r.mark v = 2 ∨ (i2 = 0 ∧ nth r.mark v ≠ 1))
def wantOne (r : Rst) (i2 : Int) (dec : Bool) (v : Nat) (o : Int) : List (Int × Int) :=
  if dec = true ∧ apexB r i2 v = true then [(o, 2)] else if dec = true ∨ nth r.mark v = 1 then [(o, 1)] else []
def badW (r : Rst) (w : Int × Int) : Bool := decide (w.2 = 2 ∧ nth r.mark w.1.toNat = 1) || (decide (w.2 = 1) && innB r w.1.toNat)
def cnt3 (r : Rst) (m : Int) (a b c : Nat) : Int := ct r m a + ct r m b + ct r m c
def wantsAll (r : Rst) (a b c p q s : Nat) : List (Int × Int) :=
  wantOne r (cnt3 r 2 a b c) (decide (cnt3 r 2 a b c = 1 ∨ cnt3 r 1 a b c = 2)) a p ++ wantOne r (cnt3 r 2 a b c) (decide (cnt3 r 2 a b c = 1 ∨ cnt3 r 1 a b c = 2)) b q ++ wantOne r (cnt3 r 2 a b c) (decide (cnt3 r 2 a b c = 1 ∨ cnt3 r 1 a b c = 2)) c s
def wantsF (r : Rst) (a b c p q s : Nat) : List (Int × Int) × Bool :=
  if p = q ∨ p = s ∨ q = s ∨ 1 < cnt3 r 2 a b c ∨ 2 < cnt3 r 1 a b c ∨ (wantsAll r a b c p q s).any (badW r) = true then ([], false) else (wantsAll r a b c p q s, true)
abbrev wnB (l : List (Int × Int)) (b : Bool) : SV Unit := ⟨.tup [none, none], [.c (.sl true 2 () (EL l)), .c (.sc (.bool b))]⟩
end Go.Proofs.Ytnmocjhpbobahaa.L
namespace Go.Proofs.Ytnmocjhpbobahaa.L
open Go Go.RowKit
set_option maxRecDepth 100000
theorem out3 {a b c : Int} {v o1 o2 : Int} {row : List Int} (hl : row.length = 3) (hp : row.Pairwise (· < ·)) (h1 : o1 ∈ row) (h2 : o2 ∈ row) (hv : v ∉ row) (hne : o1 ≠ o2) (hs : ∀ x : Int, in3 a b c x = true ↔ x = v ∨ x = o1 ∨ x = o2) : ∃ y, outN a b c row 3 = y ∧ y ∈ row ∧ y ≠ v ∧ y ≠ o1 ∧ y ≠ o2 ∧ ∀ x ∈ row, x = o1 ∨ x = o2 ∨ x = y := by
  match row, hl with
  | [x, y, z], _ =>
    simp only [List.pairwise_cons, List.mem_cons, List.not_mem_nil, or_false, forall_eq_or_imp, forall_eq, List.Pairwise.nil, and_true] at hp
    obtain ⟨⟨p1, p2⟩, p3, _⟩ := hp
    simp only [List.mem_cons, List.not_mem_nil, or_false, not_or] at h1 h2 hv
    have e : outN a b c [x, y, z] 3 = if in3 a b c z then (if in3 a b c y then (if in3 a b c x then -1 else x) else y) else z := by
      simp [outN, nth]
    rw [e]
    obtain ⟨v1, v2, v3⟩ := hv
    have kx : in3 a b c x = true ↔ x = o1 ∨ x = o2 := by rw [hs]; constructor
                                                         · rintro (h | h | h)
                                                           · exact absurd h.symm v1
                                                           · exact .inl h
                                                           · exact .inr h
                                                         · exact .inr
    have ky : in3 a b c y = true ↔ y = o1 ∨ y = o2 := by rw [hs]; constructor
                                                         · rintro (h | h | h)
                                                           · exact absurd h.symm v2
                                                           · exact .inl h
                                                           · exact .inr h
                                                         · exact .inr
    have kz : in3 a b c z = true ↔ z = o1 ∨ z = o2 := by rw [hs]; constructor
                                                         · rintro (h | h | h)
                                                           · exact absurd h.symm v3
                                                           · exact .inl h
                                                           · exact .inr h
                                                         · exact .inr
    have pos : ∀ (t : Int), (t = x ∨ t = y ∨ t = z) → (¬ t = o1) → (¬ t = o2) → (∀ u, u = x ∨ u = y ∨ u = z → u = o1 ∨ u = o2 ∨ u = t) → ∃ y' : Int, t = y' ∧ y' ∈ [x, y, z] ∧ y' ≠ v ∧ y' ≠ o1 ∧ y' ≠ o2 ∧ ∀ u ∈ [x, y, z], u = o1 ∨ u = o2 ∨ u = y' := by
      intro t ht q1 q2 q3
      refine ⟨t, rfl, by simpa using ht, ?_, q1, q2, fun u hu => q3 u (by simpa using hu)⟩
      rcases ht with rfl | rfl | rfl
      · exact fun e => v1 e.symm
      · exact fun e => v2 e.symm
      · exact fun e => v3 e.symm
    by_cases hz : z = o1 ∨ z = o2
    · rw [if_pos (kz.2 hz)]
      by_cases hy : y = o1 ∨ y = o2
      · rw [if_pos (ky.2 hy)]
        have hx : ¬ (x = o1 ∨ x = o2) := by omega
        rw [if_neg (fun h => hx (kx.1 h))]
        exact pos x (by omega) (by omega) (by omega) (by intro u hu; omega)
      · rw [if_neg (fun h => hy (ky.1 h))]
        exact pos y (by omega) (by omega) (by omega) (by intro u hu; omega)
    · rw [if_neg (fun h => hz (kz.1 h))]
      exact pos z (by omega) (by omega) (by omega) (by intro u hu; omega)
/-- How many are left. -/
def leftN (g : List Bool) : Nat → Nat
  | 0 => 0
  | i + 1 => if nthB g i = true then leftN g i else leftN g i + 1
theorem leftN_le (g : List Bool) (i : Nat) : leftN g i ≤ i := by
  induction i with
  | zero => exact Nat.le_refl _
  | succ i ih => rw [leftN]; split <;> omega
theorem leftF_len (r : Rst) (i : Nat) : (leftF r i).length = leftN r.gone i := by
  induction i with
  | zero => rfl
  | succ i ih =>
    rw [leftF, leftN]; split
    · exact ih
    · rw [List.length_append, ih]; rfl
theorem nthB_set {g : List Bool} {v j : Nat} {b : Bool} (hv : v < g.length) : nthB (g.set v b) j = if v = j then b else nthB g j := by
  unfold nthB
  simp only [List.getD_eq_getElem?_getD, List.getElem?_set]
  split
  · next h => subst h; simp [hv]
  · rfl
theorem leftN_set {g : List Bool} {v : Nat} (hv : v < g.length) (h0 : nthB g v = false) (i : Nat) : leftN (g.set v true) i + (if v < i then 1 else 0) = leftN g i := by
  induction i with
  | zero => simp [leftN]
  | succ i ih =>
    rw [leftN, leftN, nthB_set hv]
    by_cases h : v = i
    · subst h
      rw [if_neg (by omega)] at ih
      have hlt : v < v + 1 := by omega
      simp only [if_true, h0, Bool.false_eq_true, if_false, hlt]
      omega
    · rw [if_neg h]
      split
      · by_cases h2 : v < i
        · rw [if_pos h2] at ih; rw [if_pos (by omega)]; omega
        · rw [if_neg h2] at ih; rw [if_neg (by omega)]; omega
      · by_cases h2 : v < i
        · rw [if_pos h2] at ih; rw [if_pos (by omega)]; omega
        · rw [if_neg h2] at ih; rw [if_neg (by omega)]; omega
/-- What is left is in order: marks, who is gone, how many. -/
structure RstI (n : Nat) (r : Rst) : Prop extends RstS n r where
  mks : ∀ v, v < n → nth r.mark v = 0 ∨ nth r.mark v = 1 ∨ nth r.mark v = 2
  gon : ∀ v, v < n → nthB r.gone v = true → nthR r.near v = []
  cnt : r.count = leftN r.gone n
theorem RstI.cnt_le {n : Nat} {r : Rst} (h : RstI n r) : 0 ≤ r.count ∧ r.count ≤ n := by
  have := leftN_le r.gone n
  have := h.cnt
  omega
theorem RstI.left {n : Nat} {r : Rst} (h : RstI n r) {v : Nat} (hv : v < n) {x : Int} (hx : x ∈ nthR r.near v) : nthB r.gone v = false := by
  cases hg : nthB r.gone v with
  | false => rfl
  | true => rw [h.gon v hv hg] at hx; cases hx
theorem RstI.leave {n : Nat} {r : Rst} (h : RstI n r) {v : Nat} (hv : v < n) (hg : nthB r.gone v = false) : RstI n (r.leave v) := by
  have hgl : v < r.gone.length := by rw [h.gone]; exact hv
  refine ⟨h.toRstS.leave hv, h.mks, fun u hu hgu => ?_, ?_⟩
  · have hgu : nthB (r.gone.set v true) u = true := hgu
    rw [nthB_set hgl] at hgu
    apply List.eq_nil_iff_forall_not_mem.2
    intro x hx
    have hm := (leave_mem h.toRstS hv hu x).1 hx
    rw [if_neg (fun e => hm.2.1 e.symm)] at hgu
    rw [h.gon u hu hgu] at hm
    cases hm.1
  · show r.count - 1 = leftN (r.gone.set v true) n
    have := leftN_set hgl hg n
    rw [if_pos hv] at this
    have := h.cnt
    omega
theorem RstI.join {n : Nat} {r : Rst} (h : RstI n r) {a b : Nat} (ha : a < n) (hb : b < n) (hab : a ≠ b) (hno : (b : Int) ∉ nthR r.near a) (ga : nthB r.gone a = false) (gb : nthB r.gone b = false) : RstI n (r.join a b) := by
  refine ⟨h.toRstS.join ha hb hab hno, h.mks, fun u hu hgu => ?_, h.cnt⟩
  have hgu : nthB r.gone u = true := hgu
  apply List.eq_nil_iff_forall_not_mem.2
  intro x hx
  rcases (join_mem h.toRstOk ha hb hab u x).1 hx with e | ⟨e, _⟩ | ⟨e, _⟩
  · rw [h.gon u hu hgu] at e; cases e
  · subst e; exact absurd (gb.symm.trans (show nthB r.gone _ = true from hgu)) Bool.noConfusion
  · subst e; exact absurd (ga.symm.trans (show nthB r.gone _ = true from hgu)) Bool.noConfusion
/-- Only marks are changed. -/
theorem RstI.marks {n : Nat} {r : Rst} (h : RstI n r) {m : List Int} (hl : m.length = n) (hm : ∀ v, v < n → nth m v = 0 ∨ nth m v = 1 ∨ nth m v = 2) : RstI n ⟨r.near, m, r.gone, r.count⟩ :=
  ⟨⟨⟨h.near, hl, h.gone, h.rise, h.rng⟩, h.sym, h.irr⟩, hm, h.gon, h.cnt⟩
/-! ### a cut -/
/-- What is known of a corner of a triangle: it has three neighbours, and an outer one; or it has not, and none is told. -/
def Corner (n : Nat) (r : Rst) (v o1 o2 : Nat) (p : Int) : Prop :=
  ((nthR r.near v).length = 3 ∧ ∃ y : Nat, p = y ∧ y < n ∧ (y : Int) ∈ nthR r.near v ∧ y ≠ v ∧ y ≠ o1 ∧ y ≠ o2 ∧ ∀ x ∈ nthR r.near v, x = o1 ∨ x = o2 ∨ x = y) ∨ ((nthR r.near v).length ≠ 3 ∧ p = -1)
theorem corner {n : Nat} {r : Rst} (h : RstS n r) {a b c : Int} {v o1 o2 : Nat} (hv : v < n) (h1 : (o1 : Int) ∈ nthR r.near v) (h2 : (o2 : Int) ∈ nthR r.near v) (hne : o1 ≠ o2) (hs : ∀ x : Int, in3 a b c x = true ↔ x = v ∨ x = o1 ∨ x = o2) : Corner n r v o1 o2 (if (nthR r.near v).length = 3 then outN a b c (nthR r.near v) 3 else -1) := by
  by_cases hl : (nthR r.near v).length = 3
  · rw [if_pos hl]
    obtain ⟨y, e1, e2, e3, e4, e5, e6⟩ := out3 hl (h.rise v hv) h1 h2 (h.irr v hv) (by omega) hs
    have hy := h.rng v hv y e2
    obtain ⟨y', rfl⟩ : ∃ y' : Nat, y = (y' : Int) := ⟨y.toNat, by omega⟩
    exact .inl ⟨hl, y', e1, by omega, e2, by omega, by omega, by omega, e6⟩
  · rw [if_neg hl]; exact .inr ⟨hl, rfl⟩
structure CutI (n : Nat) (r : Rst) (a b c : Nat) (p q s : Int) : Prop where
  ab : a < b
  bc : b < c
  cn : c < n
  cnt : 4 < r.count
  eab : (b : Int) ∈ nthR r.near a
  eac : (c : Int) ∈ nthR r.near a
  ebc : (c : Int) ∈ nthR r.near b
  ka : Corner n r a b c p
  kb : Corner n r b a c q
  kc : Corner n r c a b s
  two : 2 ≤ isT r a + isT r b + isT r c
theorem cutI {n : Nat} {r : Rst} (h : RstS n r) {a b c : Nat} (hab : a < b) (hbc : b < c) (hc : c < n) {e : Cu} (he : cutF r a b c = (e, true)) : ∃ p q s : Int, e = ((a : Int), (b : Int), (c : Int), p, q, s) ∧ CutI n r a b c p q s := by
  unfold cutF at he
  split at he
  · simp at he
  · next hn =>
    rw [Prod.mk.injEq] at he
    obtain ⟨rfl, h2⟩ := he
    have h2 := of_decide_eq_true h2
    have e1 : (b : Int) ∈ nthR r.near a := Classical.byContradiction fun q => hn (.inr (.inl q))
    have e2 : (c : Int) ∈ nthR r.near a := Classical.byContradiction fun q => hn (.inr (.inr (.inl q)))
    have e3 : (c : Int) ∈ nthR r.near b := Classical.byContradiction fun q => hn (.inr (.inr (.inr q)))
    have e4 : 4 < r.count := Classical.byContradiction fun q => hn (.inl (by omega))
    refine ⟨_, _, _, rfl, ⟨hab, hbc, hc, e4, e1, e2, e3, ?_, ?_, ?_, h2⟩⟩
    · exact corner h (by omega) e1 e2 (by omega) (fun x => by rw [in3_iff])
    · exact corner h (by omega) (h.sym a b (by omega) (by omega) e1) e3 (by omega) (fun x => by rw [in3_iff]; omega)
    · exact corner h (by omega) (h.sym a c (by omega) (by omega) e2) (h.sym b c (by omega) (by omega) e3) (by omega) (fun x => by rw [in3_iff]; omega)
end Go.Proofs.Ytnmocjhpbobahaa.L
namespace Go.Proofs.Ytnmocjhpbobahaa.L
open Go Go.RowKit
set_option maxRecDepth 100000
set_option maxHeartbeats 4000000
attribute [local simp] mk0 mk1 mk2
noncomputable abbrev EWants : Env := ext (ext (ext env0 43 specCorners) 62 specBeside) 72 specInner
abbrev wS1 (r : Rst) (a b c p q s : Nat) (x y z i : Int) : St Unit := [(0, rf r), (6, a3x a b c), (7, a3x p q s), (8, a3x x y z), (42, a3 a b c), (43, iv i)]
abbrev wS2 (r : Rst) (a b c p q s : Nat) (x y z : Int) (d : Bool) (l : List (Int × Int)) (i : Int) : St Unit := [(0, rf r), (7, a3x p q s), (8, a3x x y z), (11, bv d), (12, ⟨.one, [.c (.sl true 2 () (EL l))]⟩), (74, a3 a b c), (75, iv i)]
abbrev wS3 (r : Rst) (l : List (Int × Int)) (i : Nat) : St Unit := [(0, rf r), (12, ⟨.one, [.c (.sl true 2 () (EL l))]⟩), (134, ⟨.one, [.view 12 [0]]⟩), (135, iv l.length), (136, iv i)]
theorem ct_le (r : Rst) (m : Int) (v : Nat) : 0 ≤ ct r m v ∧ ct r m v ≤ 1 := by unfold ct; split <;> omega
theorem ct_eq {r : Rst} {m : Int} {v : Nat} (h : nth r.mark v = m) : ct r m v = 1 := by unfold ct; rw [if_pos h]
theorem ct_ne {r : Rst} {m m' : Int} {v : Nat} (h : nth r.mark v = m') (hn : m' ≠ m) : ct r m v = 0 := by unfold ct; rw [if_neg (by rw [h]; exact hn)]
theorem wantOne_mem {r : Rst} {i2 : Int} {d : Bool} {v : Nat} {o : Int} {e : Int × Int} (h : e ∈ wantOne r i2 d v o) : e.1 = o ∧ (e.2 = 1 ∨ e.2 = 2) := by
  unfold wantOne at h
  split at h
  · rw [List.mem_singleton] at h; subst h; exact ⟨rfl, .inr rfl⟩
  · split at h
    · rw [List.mem_singleton] at h; subst h; exact ⟨rfl, .inl rfl⟩
    · cases h
theorem wantOne_len (r : Rst) (i2 : Int) (d : Bool) (v : Nat) (o : Int) : (wantOne r i2 d v o).length ≤ 1 := by
  unfold wantOne; split
  · exact Nat.le_refl _
  · split
    · exact Nat.le_refl _
    · exact Nat.zero_le _
theorem wWants0 (n : Nat) (r : Rst) (hr : RstOk n r) (hn : n ≤ 1000000) (a b c p q s : Nat) (ha : a < n) (hb : b < n) (hc : c < n) (hp : p < n) (hq : q < n) (hs : s < n) (hm : ∀ v, v < n → nth r.mark v = 0 ∨ nth r.mark v = 1 ∨ nth r.mark v = 2) (hh : p = q ∨ p = s ∨ q = s ∨ 1 < cnt3 r 2 a b c ∨ 2 < cnt3 r 1 a b c) : ∃ k, Try.f53.body = some k ∧ RP (regOf Try.prog EWants 167 u53) k (argsSt 0 [rf r, cu6 ((a : Int), (b : Int), (c : Int), (p : Int), (q : Int), (s : Int))]) (endsAs Try.prog Try.f53 (wnB (wantsF r a b c p q s).1 (wantsF r a b c p q s).2)) := by
  refine ⟨_, rfl, ?_⟩
  generalize hQ : endsAs Try.prog Try.f53 (wnB (wantsF r a b c p q s).1 (wantsF r a b c p q s).2) = Q
  simp only [argsSt]
  have c1 := hr.near
  have c2 := hr.mark
  have a2 : a < r.mark.length := by omega
  have b2 : b < r.mark.length := by omega
  have c3 : c < r.mark.length := by omega
  by_cases hpq : p = q
  · subst hpq
    refine go ?_
    rw [show wantsF r a b c p p s = ([], false) by unfold wantsF; rw [if_pos (.inl rfl)]] at hQ
    show Q .ret _; refine fin_ret hQ rfl ?_
    rfl
  have pq : ¬ (p : Int) = q := by omega
  by_cases hps : p = s
  · subst hps
    refine go ?_
    rw [show wantsF r a b c p q p = ([], false) by unfold wantsF; rw [if_pos (.inr (.inl rfl))]] at hQ
    show Q .ret _; refine fin_ret hQ rfl ?_
    rfl
  have ps : ¬ (p : Int) = s := by omega
  by_cases hqs : q = s
  · subst hqs
    refine go ?_
    rw [show wantsF r a b c p q q = ([], false) by unfold wantsF; rw [if_pos (.inr (.inr (.inl rfl)))]] at hQ
    show Q .ret _; refine fin_ret hQ rfl ?_
    rfl
  have qs : ¬ (q : Int) = s := by omega
  refine go ?_
  have k0 := ct_le r
  apply rp_loop (fun k σ => (k = 3 ∧ σ = wS1 r a b c p q s (0) (0) (0) 0) ∨ (k = 2 ∧ σ = wS1 r a b c p q s (ct r 0 a) (ct r 1 a) (ct r 2 a) 1) ∨ (k = 1 ∧ σ = wS1 r a b c p q s (ct r 0 a + ct r 0 b) (ct r 1 a + ct r 1 b) (ct r 2 a + ct r 2 b) 2) ∨ (k = 0 ∧ σ = wS1 r a b c p q s (ct r 0 a + ct r 0 b + ct r 0 c) (ct r 1 a + ct r 1 b + ct r 1 c) (ct r 2 a + ct r 2 b + ct r 2 c) 3)) 3
  · exact .inl ⟨rfl, rfl⟩
  rintro k σ (⟨rfl, rfl⟩ | ⟨rfl, rfl⟩ | ⟨rfl, rfl⟩ | ⟨rfl, rfl⟩)
  · have h0 := k0 0 a
    have h1 := k0 1 a
    have h2 := k0 2 a
    have h3 := k0 0 b
    have h4 := k0 1 b
    have h5 := k0 2 b
    rcases hm a ha with h | h | h
    · rw [ct_eq h, ct_ne (m := 1) h (by omega), ct_ne (m := 2) h (by omega)]
      try simp only [Int.add_zero]
      refine go ?_
      exact nxt 2 (by omega) (.inr (.inl ⟨rfl, rfl⟩))
    · rw [ct_ne (m := 0) h (by omega), ct_eq h, ct_ne (m := 2) h (by omega)]
      try simp only [Int.add_zero]
      refine go ?_
      exact nxt 2 (by omega) (.inr (.inl ⟨rfl, rfl⟩))
    · rw [ct_ne (m := 0) h (by omega), ct_ne (m := 1) h (by omega), ct_eq h]
      try simp only [Int.add_zero]
      refine go ?_
      exact nxt 2 (by omega) (.inr (.inl ⟨rfl, rfl⟩))
  · have h0 := k0 0 a
    have h1 := k0 1 a
    have h2 := k0 2 a
    have h3 := k0 0 b
    have h4 := k0 1 b
    have h5 := k0 2 b
    rcases hm b hb with h | h | h
    · rw [ct_eq h, ct_ne (m := 1) h (by omega), ct_ne (m := 2) h (by omega)]
      try simp only [Int.add_zero]
      refine go ?_
      exact nxt 1 (by omega) (.inr (.inr (.inl ⟨rfl, rfl⟩)))
    · rw [ct_ne (m := 0) h (by omega), ct_eq h, ct_ne (m := 2) h (by omega)]
      try simp only [Int.add_zero]
      refine go ?_
      exact nxt 1 (by omega) (.inr (.inr (.inl ⟨rfl, rfl⟩)))
    · rw [ct_ne (m := 0) h (by omega), ct_ne (m := 1) h (by omega), ct_eq h]
      try simp only [Int.add_zero]
      refine go ?_
      exact nxt 1 (by omega) (.inr (.inr (.inl ⟨rfl, rfl⟩)))
  · have h0 := k0 0 a
    have h1 := k0 1 a
    have h2 := k0 2 a
    have h3 := k0 0 b
    have h4 := k0 1 b
    have h5 := k0 2 b
    rcases hm c hc with h | h | h
    · rw [ct_eq h, ct_ne (m := 1) h (by omega), ct_ne (m := 2) h (by omega)]
      try simp only [Int.add_zero]
      refine go ?_
      exact nxt 0 (by omega) (.inr (.inr (.inr ⟨rfl, rfl⟩)))
    · rw [ct_ne (m := 0) h (by omega), ct_eq h, ct_ne (m := 2) h (by omega)]
      try simp only [Int.add_zero]
      refine go ?_
      exact nxt 0 (by omega) (.inr (.inr (.inr ⟨rfl, rfl⟩)))
    · rw [ct_ne (m := 0) h (by omega), ct_ne (m := 1) h (by omega), ct_eq h]
      try simp only [Int.add_zero]
      refine go ?_
      exact nxt 0 (by omega) (.inr (.inr (.inr ⟨rfl, rfl⟩)))
  have hct : ∀ m, 0 ≤ cnt3 r m a b c ∧ cnt3 r m a b c ≤ 3 := fun m => by have := k0 m a; have := k0 m b; have := k0 m c; unfold cnt3; omega
  have g0 := hct 0
  have g1 := hct 1
  have g2 := hct 2
  rw [show ct r 0 a + ct r 0 b + ct r 0 c = cnt3 r 0 a b c from rfl, show ct r 1 a + ct r 1 b + ct r 1 c = cnt3 r 1 a b c from rfl, show ct r 2 a + ct r 2 b + ct r 2 c = cnt3 r 2 a b c from rfl]
  by_cases w1 : 1 < cnt3 r 2 a b c
  · rw [show wantsF r a b c p q s = ([], false) by unfold wantsF; rw [if_pos (.inr (.inr (.inr (.inl w1))))]] at hQ
    refine go ?_
    show Q .ret _; refine fin_ret hQ rfl ?_
    rfl
  by_cases w2 : 2 < cnt3 r 1 a b c
  · rw [show wantsF r a b c p q s = ([], false) by unfold wantsF; rw [if_pos (.inr (.inr (.inr (.inr (.inl w2)))))]] at hQ
    refine go ?_
    show Q .ret _; refine fin_ret hQ rfl ?_
    rfl
  rcases hh with h | h | h | h | h <;> contradiction
end Go.Proofs.Ytnmocjhpbobahaa.L
