/- R38: rest.state. RC: what a cut is, as a plain law. -/
import Derived.Test.YtnmocjhpbobahaaY16
import Derived.Test.YtnmocjhpbobahaaY17
set_option linter.unusedVariables false
set_option linter.unusedSimpArgs false
set_option linter.unnecessarySimpa false
namespace Go.Proofs.Ytnmocjhpbobahaa.L
open Go Go.RowKit
set_option maxRecDepth 100000
set_option maxHeartbeats 4000000
def leftF (r : Rst) : Nat → List Int
  | 0 => []
  | i + 1 => if nthB r.gone i = true then leftF r i else leftF r i ++ [(i : Int)]
def marksF (r : Rst) : Nat → List Int
  | 0 => []
  | i + 1 => if nthB r.gone i = true then marksF r i else marksF r i ++ [nth r.mark i]
def upF (row : List Int) (v : Nat) : Nat → List (Int × Int)
  | 0 => []
  | j + 1 => if (v : Int) < nth row j then upF row v j ++ [((v : Int), nth row j)] else upF row v j
def edgesF (r : Rst) : Nat → List (Int × Int)
  | 0 => []
  | i + 1 => if nthB r.gone i = true then edgesF r i else edgesF r i ++ upF (nthR r.near i) i (nthR r.near i).length
abbrev stV (l : List Int) (e : List (Int × Int)) (m : List Int) : SV Unit := ⟨.agg, [.c (.sl true 1 () (IL l)), .c (.sl true 2 () (EL e)), .c (.sl true 1 () (IL m))]⟩
def StateOk (r : Rst) : Prop := RstOk r.near.length r ∧ r.near.length ≤ 1000
noncomputable def specState : Spec := fun us => match us with
  | [x] => match asRst x with
    | some r => whenC (StateOk r) (stV (leftF r r.near.length) (edgesF r r.near.length) (marksF r r.near.length))
    | _ => none
  | _ => none
@[simp] theorem sStateR {r : Rst} (h : StateOk r) : specState [⟨.one, [.c (rstF r)]⟩] = some (stV (leftF r r.near.length) (edgesF r r.near.length) (marksF r r.near.length)) := by
  unfold specState
  simp only [asRst_rst]
  exact whenC_pos _ h
@[simp] theorem callState {E : Env} {σ : St Unit} {t : Nat} {l : List Operand} : effCall Try.prog E ΩU σ t 38 l = callO E 38 t (argsOf Try.prog ΩU σ [63] l) := eff_call Try.func38 Try.params38
end Go.Proofs.Ytnmocjhpbobahaa.L
namespace Go.Proofs.Ytnmocjhpbobahaa.L
open Go Go.RowKit
set_option maxRecDepth 100000
theorem out3 {a b c : Int} {v o1 o2 : Int} {row : List Int} (hl : row.length = 3) (hp : row.Pairwise (· < ·)) (h1 : o1 ∈ row) (h2 : o2 ∈ row) (hv : v ∉ row) (hne : o1 ≠ o2) (hs : ∀ x : Int, in3 a b c x = true ↔ x = v ∨ x = o1 ∨ x = o2) : ∃ y, outN a b c row 3 = y ∧ y ∈ row ∧ y ≠ v ∧ y ≠ o1 ∧ y ≠ o2 ∧ ∀ x ∈ row, x = o1 ∨ x = o2 ∨ x = y := by
  match row, hl with
  | [x, y, z], _ =>
    simp only [List.pairwise_cons, List.mem_cons, List.not_mem_nil, or_false, forall_eq_or_imp, forall_eq, List.Pairwise.nil, and_true] at hp
    obtain ⟨⟨p1, p2⟩, p3, _⟩ := hp
    simp only [List.mem_cons, List.not_mem_nil, or_false, not_or] at h1 h2 hv
    have e : outN a b c [x, y, z] 3 = if in3 a b c z then (if in3 a b c y then (if in3 a b c x then -1 else x) else y) else z := by
      simp [outN, nth]
    rw [e]
    obtain ⟨v1, v2, v3⟩ := hv
    have kx : in3 a b c x = true ↔ x = o1 ∨ x = o2 := by rw [hs]; constructor
                                                         · rintro (h | h | h)
                                                           · exact absurd h.symm v1
                                                           · exact .inl h
                                                           · exact .inr h
                                                         · exact .inr
    have ky : in3 a b c y = true ↔ y = o1 ∨ y = o2 := by rw [hs]; constructor
                                                         · rintro (h | h | h)
                                                           · exact absurd h.symm v2
                                                           · exact .inl h
                                                           · exact .inr h
                                                         · exact .inr
    have kz : in3 a b c z = true ↔ z = o1 ∨ z = o2 := by rw [hs]; constructor
                                                         · rintro (h | h | h)
                                                           · exact absurd h.symm v3
                                                           · exact .inl h
                                                           · exact .inr h
                                                         · exact .inr
    have pos : ∀ (t : Int), (t = x ∨ t = y ∨ t = z) → (¬ t = o1) → (¬ t = o2) → (∀ u, u = x ∨ u = y ∨ u = z → u = o1 ∨ u = o2 ∨ u = t) → ∃ y' : Int, t = y' ∧ y' ∈ [x, y, z] ∧ y' ≠ v ∧ y' ≠ o1 ∧ y' ≠ o2 ∧ ∀ u ∈ [x, y, z], u = o1 ∨ u = o2 ∨ u = y' := by
      intro t ht q1 q2 q3
      refine ⟨t, rfl, by simpa using ht, ?_, q1, q2, fun u hu => q3 u (by simpa using hu)⟩
      rcases ht with rfl | rfl | rfl
      · exact fun e => v1 e.symm
      · exact fun e => v2 e.symm
      · exact fun e => v3 e.symm
    by_cases hz : z = o1 ∨ z = o2
    · rw [if_pos (kz.2 hz)]
      by_cases hy : y = o1 ∨ y = o2
      · rw [if_pos (ky.2 hy)]
        have hx : ¬ (x = o1 ∨ x = o2) := by omega
        rw [if_neg (fun h => hx (kx.1 h))]
        exact pos x (by omega) (by omega) (by omega) (by intro u hu; omega)
      · rw [if_neg (fun h => hy (ky.1 h))]
        exact pos y (by omega) (by omega) (by omega) (by intro u hu; omega)
    · rw [if_neg (fun h => hz (kz.1 h))]
      exact pos z (by omega) (by omega) (by omega) (by intro u hu; omega)
/-- How many are left. -/
def leftN (g : List Bool) : Nat → Nat
  | 0 => 0
  | i + 1 => if nthB g i = true then leftN g i else leftN g i + 1
theorem leftN_le (g : List Bool) (i : Nat) : leftN g i ≤ i := by
  induction i with
  | zero => exact Nat.le_refl _
  | succ i ih => rw [leftN]; split <;> omega
theorem nthB_set {g : List Bool} {v j : Nat} {b : Bool} (hv : v < g.length) : nthB (g.set v b) j = if v = j then b else nthB g j := by
  unfold nthB
  simp only [List.getD_eq_getElem?_getD, List.getElem?_set]
  split
  · next h => subst h; simp [hv]
  · rfl
theorem leftN_set {g : List Bool} {v : Nat} (hv : v < g.length) (h0 : nthB g v = false) (i : Nat) : leftN (g.set v true) i + (if v < i then 1 else 0) = leftN g i := by
  induction i with
  | zero => simp [leftN]
  | succ i ih =>
    rw [leftN, leftN, nthB_set hv]
    by_cases h : v = i
    · subst h
      rw [if_neg (by omega)] at ih
      have hlt : v < v + 1 := by omega
      simp only [if_true, h0, Bool.false_eq_true, if_false, hlt]
      omega
    · rw [if_neg h]
      split
      · by_cases h2 : v < i
        · rw [if_pos h2] at ih; rw [if_pos (by omega)]; omega
        · rw [if_neg h2] at ih; rw [if_neg (by omega)]; omega
      · by_cases h2 : v < i
        · rw [if_pos h2] at ih; rw [if_pos (by omega)]; omega
        · rw [if_neg h2] at ih; rw [if_neg (by omega)]; omega
/-- What is left is in order: marks, who is gone, how many. -/
structure RstI (n : Nat) (r : Rst) : Prop extends RstS n r where
  mks : ∀ v, v < n → nth r.mark v = 0 ∨ nth r.mark v = 1 ∨ nth r.mark v = 2
  gon : ∀ v, v < n → nthB r.gone v = true → nthR r.near v = []
  cnt : r.count = leftN r.gone n
theorem RstI.cnt_le {n : Nat} {r : Rst} (h : RstI n r) : 0 ≤ r.count ∧ r.count ≤ n := by
  have := leftN_le r.gone n
  have := h.cnt
  omega
theorem RstI.left {n : Nat} {r : Rst} (h : RstI n r) {v : Nat} (hv : v < n) {x : Int} (hx : x ∈ nthR r.near v) : nthB r.gone v = false := by
  cases hg : nthB r.gone v with
  | false => rfl
  | true => rw [h.gon v hv hg] at hx; cases hx
theorem RstI.leave {n : Nat} {r : Rst} (h : RstI n r) {v : Nat} (hv : v < n) (hg : nthB r.gone v = false) : RstI n (r.leave v) := by
  have hgl : v < r.gone.length := by rw [h.gone]; exact hv
  refine ⟨h.toRstS.leave hv, h.mks, fun u hu hgu => ?_, ?_⟩
  · have hgu : nthB (r.gone.set v true) u = true := hgu
    rw [nthB_set hgl] at hgu
    apply List.eq_nil_iff_forall_not_mem.2
    intro x hx
    have hm := (leave_mem h.toRstS hv hu x).1 hx
    rw [if_neg (fun e => hm.2.1 e.symm)] at hgu
    rw [h.gon u hu hgu] at hm
    cases hm.1
  · show r.count - 1 = leftN (r.gone.set v true) n
    have := leftN_set hgl hg n
    rw [if_pos hv] at this
    have := h.cnt
    omega
theorem RstI.join {n : Nat} {r : Rst} (h : RstI n r) {a b : Nat} (ha : a < n) (hb : b < n) (hab : a ≠ b) (hno : (b : Int) ∉ nthR r.near a) (ga : nthB r.gone a = false) (gb : nthB r.gone b = false) : RstI n (r.join a b) := by
  refine ⟨h.toRstS.join ha hb hab hno, h.mks, fun u hu hgu => ?_, h.cnt⟩
  have hgu : nthB r.gone u = true := hgu
  apply List.eq_nil_iff_forall_not_mem.2
  intro x hx
  rcases (join_mem h.toRstOk ha hb hab u x).1 hx with e | ⟨e, _⟩ | ⟨e, _⟩
  · rw [h.gon u hu hgu] at e; cases e
  · subst e; exact absurd (gb.symm.trans (show nthB r.gone _ = true from hgu)) Bool.noConfusion
  · subst e; exact absurd (ga.symm.trans (show nthB r.gone _ = true from hgu)) Bool.noConfusion
/-- Only marks are changed. -/
theorem RstI.marks {n : Nat} {r : Rst} (h : RstI n r) {m : List Int} (hl : m.length = n) (hm : ∀ v, v < n → nth m v = 0 ∨ nth m v = 1 ∨ nth m v = 2) : RstI n ⟨r.near, m, r.gone, r.count⟩ :=
  ⟨⟨⟨h.near, hl, h.gone, h.rise, h.rng⟩, h.sym, h.irr⟩, hm, h.gon, h.cnt⟩
/-! ### a cut -/
/-- What is known of a corner of a triangle: it has three neighbours, and an outer one; or it has not, and none is told. -/
def Corner (n : Nat) (r : Rst) (v o1 o2 : Nat) (p : Int) : Prop :=
  ((nthR r.near v).length = 3 ∧ ∃ y : Nat, p = y ∧ y < n ∧ (y : Int) ∈ nthR r.near v ∧ y ≠ v ∧ y ≠ o1 ∧ y ≠ o2 ∧ ∀ x ∈ nthR r.near v, x = o1 ∨ x = o2 ∨ x = y) ∨ ((nthR r.near v).length ≠ 3 ∧ p = -1)
theorem corner {n : Nat} {r : Rst} (h : RstS n r) {a b c : Int} {v o1 o2 : Nat} (hv : v < n) (h1 : (o1 : Int) ∈ nthR r.near v) (h2 : (o2 : Int) ∈ nthR r.near v) (hne : o1 ≠ o2) (hs : ∀ x : Int, in3 a b c x = true ↔ x = v ∨ x = o1 ∨ x = o2) : Corner n r v o1 o2 (if (nthR r.near v).length = 3 then outN a b c (nthR r.near v) 3 else -1) := by
  by_cases hl : (nthR r.near v).length = 3
  · rw [if_pos hl]
    obtain ⟨y, e1, e2, e3, e4, e5, e6⟩ := out3 hl (h.rise v hv) h1 h2 (h.irr v hv) (by omega) hs
    have hy := h.rng v hv y e2
    obtain ⟨y', rfl⟩ : ∃ y' : Nat, y = (y' : Int) := ⟨y.toNat, by omega⟩
    exact .inl ⟨hl, y', e1, by omega, e2, by omega, by omega, by omega, e6⟩
  · rw [if_neg hl]; exact .inr ⟨hl, rfl⟩
structure CutI (n : Nat) (r : Rst) (a b c : Nat) (p q s : Int) : Prop where
  ab : a < b
  bc : b < c
  cn : c < n
  cnt : 4 < r.count
  eab : (b : Int) ∈ nthR r.near a
  eac : (c : Int) ∈ nthR r.near a
  ebc : (c : Int) ∈ nthR r.near b
  ka : Corner n r a b c p
  kb : Corner n r b a c q
  kc : Corner n r c a b s
  two : 2 ≤ isT r a + isT r b + isT r c
theorem cutI {n : Nat} {r : Rst} (h : RstS n r) {a b c : Nat} (hab : a < b) (hbc : b < c) (hc : c < n) {e : Cu} (he : cutF r a b c = (e, true)) : ∃ p q s : Int, e = ((a : Int), (b : Int), (c : Int), p, q, s) ∧ CutI n r a b c p q s := by
  unfold cutF at he
  split at he
  · simp at he
  · next hn =>
    rw [Prod.mk.injEq] at he
    obtain ⟨rfl, h2⟩ := he
    have h2 := of_decide_eq_true h2
    have e1 : (b : Int) ∈ nthR r.near a := Classical.byContradiction fun q => hn (.inr (.inl q))
    have e2 : (c : Int) ∈ nthR r.near a := Classical.byContradiction fun q => hn (.inr (.inr (.inl q)))
    have e3 : (c : Int) ∈ nthR r.near b := Classical.byContradiction fun q => hn (.inr (.inr (.inr q)))
    have e4 : 4 < r.count := Classical.byContradiction fun q => hn (.inl (by omega))
    refine ⟨_, _, _, rfl, ⟨hab, hbc, hc, e4, e1, e2, e3, ?_, ?_, ?_, h2⟩⟩
    · exact corner h (by omega) e1 e2 (by omega) (fun x => by rw [in3_iff])
    · exact corner h (by omega) (h.sym a b (by omega) (by omega) e1) e3 (by omega) (fun x => by rw [in3_iff]; omega)
    · exact corner h (by omega) (h.sym a c (by omega) (by omega) e2) (h.sym b c (by omega) (by omega) e3) (by omega) (fun x => by rw [in3_iff]; omega)
end Go.Proofs.Ytnmocjhpbobahaa.L
