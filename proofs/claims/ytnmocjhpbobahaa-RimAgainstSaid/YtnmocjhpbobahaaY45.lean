/- RR: a run's cuts, replayed; what is left then. -/
import Derived.Test.YtnmocjhpbobahaaY28
import Derived.Test.YtnmocjhpbobahaaY33
import Derived.Test.YtnmocjhpbobahaaY36
set_option linter.unusedVariables false
set_option linter.unusedSimpArgs false
set_option linter.unnecessarySimpa false
namespace Go.Proofs.Ytnmocjhpbobahaa.L
open Go Go.RowKit
set_option maxRecDepth 100000
theorem stepF_cut {n : Nat} {r : Rst} {a b c : Nat} {p q s : Int} (k : CutI n r a b c p q s) (hcut : cutF r a b c = (((a : Int), (b : Int), (c : Int), p, q, s), true)) (hd : (doF r ((a : Int), (b : Int), (c : Int), p, q, s)).2 = true) : stepF n r ((a : Int), (b : Int), (c : Int), p, q, s) = some (doF r ((a : Int), (b : Int), (c : Int), p, q, s)).1 := by
  unfold stepF
  rw [if_pos]
  refine ⟨?_, ?_, ?_, hd⟩
  · unfold okAt; have := k.ab; have := k.bc; have := k.cn; simp only; omega
  · simp only [Int.toNat_natCast, hcut]
  · simp only [Int.toNat_natCast, hcut]
    unfold sameO
    exact same3_iff.2 ⟨rfl, rfl, rfl⟩
theorem foldl_min_le (l : List Int) : ∀ a : Int, l.foldl min a ≤ a ∧ ∀ x ∈ l, l.foldl min a ≤ x := by
  induction l with
  | nil => exact fun a => ⟨Int.le_refl _, fun x hx => absurd hx List.not_mem_nil⟩
  | cons y l ih =>
    intro a
    rw [List.foldl_cons]
    obtain ⟨h1, h2⟩ := ih (min a y)
    refine ⟨by omega, fun x hx => ?_⟩
    rcases List.mem_cons.1 hx with rfl | hx
    · omega
    · exact h2 x hx
theorem minL_le {l : List Int} {v : Nat} (hv : v < l.length) : minL l ≤ nth l v := by
  unfold minL
  cases l with
  | nil => simp at hv
  | cons y l =>
    obtain ⟨h1, h2⟩ := foldl_min_le l (nth (y :: l) 0)
    rw [List.tail_cons]
    cases v with
    | zero => exact h1
    | succ v =>
      have hv' : v < l.length := by simpa using hv
      have e : nth (y :: l) (v + 1) = l[v] := by simp [nth, hv']
      rw [e]
      exact h2 _ (List.getElem_mem hv')
theorem begin_keeps {n : Nat} {es : List (Int × Int)} (h : RightG n es) (h3 : ¬ (0 < (n : Int) ∧ minL (degF n es es.length) < 3)) : RstD n (beginF n es) := by
  have hb := begin_ok h
  refine ⟨hb, fun v hv _ => ?_, fun v hv _ hm => ?_⟩
  · have e := degF_begin h hv
    have := minL_le (l := degF n es es.length) (v := v) (by rw [degF_len]; exact hv)
    omega
  · have : nth (List.replicate n (0 : Int)) v = 1 := hm
    unfold nth at this
    simp [hv] at this
end Go.Proofs.Ytnmocjhpbobahaa.L
