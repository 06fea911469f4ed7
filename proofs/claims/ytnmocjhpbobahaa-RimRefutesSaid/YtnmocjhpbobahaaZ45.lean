/- UF: four left, each a neighbour of each: as the document says. RF: which traces refute, as a plain law. -/
import Derived.Test.YtnmocjhpbobahaaZ18
import Derived.Test.YtnmocjhpbobahaaZ44
import Derived.Test.YtnmocjhpbobahaaZ39
import Derived.Test.YtnmocjhpbobahaaZ24
set_option linter.unusedVariables false
set_option linter.unusedSimpArgs false
set_option linter.unnecessarySimpa false
namespace Go.Proofs.Ytnmocjhpbobahaa.L
open Go Go.RowKit
set_option maxRecDepth 100000
theorem deg_le_left {n : Nat} {r : Rst} (h : RstI n r) {v : Nat} (hv : v < n) (hg : nthB r.gone v = false) : deg r v + 1 ≤ leftN r.gone n := by
  have hrng := h.rng v hv
  have hnd := h.toRstOk.nodup hv
  have hl := six_left (g := r.gone) (n := n) h.toRstOk.gone (l := v :: (nthR r.near v).map Int.toNat) (by
    rw [List.nodup_cons]
    constructor
    · intro hm
      obtain ⟨x, hx, e⟩ := List.mem_map.1 hm
      have hr := hrng x hx
      have : x = (v : Int) := by omega
      rw [this] at hx
      exact h.irr v hv hx
    · unfold List.Nodup
      rw [List.pairwise_map]
      exact hnd.imp_of_mem (fun {a b} ha hb hab => by have := hrng a ha; have := hrng b hb; intro e; exact hab (by omega))) (by
    intro u hu
    rcases List.mem_cons.1 hu with rfl | hu
    · exact ⟨hv, hg⟩
    · obtain ⟨x, hx, rfl⟩ := List.mem_map.1 hu
      have hr := hrng x hx
      obtain ⟨y, rfl⟩ : ∃ y : Nat, x = (y : Int) := ⟨x.toNat, by omega⟩
      rw [Int.toNat_natCast]
      exact ⟨by omega, h.left (by omega) (h.sym v y hv (by omega) hx)⟩)
  simp only [List.length_cons, List.length_map] at hl
  unfold deg
  exact hl
theorem edg_all {n : Nat} {r : Rst} {t : Tbl} (h : Agr n r t) (h3 : ∀ v, v < n → nthB r.gone v = false → deg r v ≤ 3) : ∀ i, i ≤ n → edgE r i ≤ 3 * (leftN r.gone i : Int) ∧ (allT t i = true ↔ edgE r i = 3 * (leftN r.gone i : Int))
  | 0, _ => by simp [edgE, leftN, allT]
  | i + 1, hi => by
    obtain ⟨k1, k2⟩ := edg_all h h3 i (by omega)
    have hb := h.inn i (by omega)
    rw [edgE, leftN, allT, hb]
    cases hg : nthB r.gone i with
    | true =>
      rw [if_pos rfl, if_pos rfl]
      refine ⟨k1, ?_⟩
      simp only [Bool.not_true, Bool.not_false, Bool.true_or, Bool.and_true]
      exact k2
    | false =>
      have hd := h3 i (by omega) hg
      have hnr := h.near (by omega : i < n) hg
      rw [if_neg Bool.noConfusion, if_neg Bool.noConfusion, h.tb.inn, hnr]
      unfold deg at hd
      refine ⟨by omega, ?_⟩
      simp only [Bool.not_false, Bool.not_true, Bool.false_or, Bool.and_eq_true, decide_eq_true_eq, k2]
      constructor
      · rintro ⟨a, b⟩; omega
      · intro a; omega
theorem Agr.four {n : Nat} {r : Rst} {t : Tbl} (h : Agr n r t) : fourT t = isFb r := by
  unfold fourT isFb
  rw [h.tb.inn, h.rst.near, h.count]
  by_cases h4 : r.count = 4
  · have hl : (leftN r.gone n : Int) = 4 := by have := h.rst.cnt; omega
    have h3 : ∀ v, v < n → nthB r.gone v = false → deg r v ≤ 3 := fun v hv hg => by have := deg_le_left h.rst hv hg; omega
    obtain ⟨_, k2⟩ := edg_all h h3 n (Nat.le_refl _)
    rw [hl] at k2
    rw [decide_eq_true h4, Bool.true_and, Bool.eq_iff_iff, decide_eq_true_eq, k2]
    constructor
    · intro e; exact ⟨h4, by omega⟩
    · intro e; have := e.2; omega
  · rw [decide_eq_false h4, Bool.false_and]
    exact (decide_eq_false (fun e => h4 e.1)).symm
theorem Agr.fits {n : Nat} {r : Rst} {t : Tbl} (h : Agr n r t) : fitT t = fitFb r := by
  unfold fitT fitFb
  rw [h.tb.inn, h.rst.near, h.mks 2 n (Nat.le_refl _), h.mks 1 n (Nat.le_refl _)]
end Go.Proofs.Ytnmocjhpbobahaa.L
namespace Go.Proofs.Ytnmocjhpbobahaa.L
open Go Go.RowKit
set_option maxRecDepth 100000
/-- The last cut is one, and can't be done. -/
def lastB (n : Nat) (r : Rst) (x : Cu) : Bool := decide (okT n x) && (decide (cutF r x.1.toNat x.2.1.toNat x.2.2.1.toNat = (x, true)) && !(doF r x).2)
def clashB (n : Nat) (r : Rst) (l : List Cu) : Bool := decide ((replF n r (l.take (l.length - 1))).2 = l.length - 1) && (decide (l ≠ []) && lastB n (replF n r (l.take (l.length - 1))).1 (cuAt l (l.length - 1)))
def stuckB (r : Rst) : Bool := !(isFb r) && decide (leastF r = none)
def unfitB (r : Rst) : Bool := isFb r && !(fitFb r)
def refuB (n : Nat) (es : List (Int × Int)) (e : Int) (l : List Cu) : Bool :=
  if e = 2 then decide (l = [] ∧ (n : Int) < 4)
  else if e = 3 then decide (l = []) && decide (0 < (n : Int) ∧ minL (degF n es es.length) < 3)
  else if e = 5 then clashB n (beginF n es) l
  else if e = 4 then decide ((replF n (beginF n es) l).2 = l.length) && stuckB (replF n (beginF n es) l).1
  else if e = 6 then decide ((replF n (beginF n es) l).2 = l.length) && unfitB (replF n (beginF n es) l).1
  else false
theorem refuB_2 (n : Nat) (es : List (Int × Int)) (l : List Cu) : refuB n es 2 l = decide (l = [] ∧ (n : Int) < 4) := by unfold refuB; rw [if_pos rfl]
theorem refuB_3 (n : Nat) (es : List (Int × Int)) (l : List Cu) : refuB n es 3 l = (decide (l = []) && decide (0 < (n : Int) ∧ minL (degF n es es.length) < 3)) := by unfold refuB; rw [if_neg (by decide), if_pos rfl]
theorem refuB_5 (n : Nat) (es : List (Int × Int)) (l : List Cu) : refuB n es 5 l = clashB n (beginF n es) l := by unfold refuB; rw [if_neg (by decide), if_neg (by decide), if_pos rfl]
theorem refuB_4 (n : Nat) (es : List (Int × Int)) (l : List Cu) : refuB n es 4 l = (decide ((replF n (beginF n es) l).2 = l.length) && stuckB (replF n (beginF n es) l).1) := by unfold refuB; rw [if_neg (by decide), if_neg (by decide), if_neg (by decide), if_pos rfl]
theorem refuB_6 (n : Nat) (es : List (Int × Int)) (l : List Cu) : refuB n es 6 l = (decide ((replF n (beginF n es) l).2 = l.length) && unfitB (replF n (beginF n es) l).1) := by unfold refuB; rw [if_neg (by decide), if_neg (by decide), if_neg (by decide), if_neg (by decide), if_pos rfl]
theorem refuB_n {n : Nat} {es : List (Int × Int)} {e : Int} {l : List Cu} (h2 : ¬ e = 2) (h3 : ¬ e = 3) (h5 : ¬ e = 5) (h4 : ¬ e = 4) (h6 : ¬ e = 6) : refuB n es e l = false := by unfold refuB; rw [if_neg h2, if_neg h3, if_neg h5, if_neg h4, if_neg h6]
theorem clashB_nil (n : Nat) (r : Rst) : clashB n r [] = false := by
  unfold clashB
  rw [decide_eq_false (show ¬ ([] : List Cu) ≠ [] by simp), Bool.false_and, Bool.and_false]
end Go.Proofs.Ytnmocjhpbobahaa.L
