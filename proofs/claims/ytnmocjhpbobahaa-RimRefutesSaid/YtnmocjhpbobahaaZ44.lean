/- RP: degrees, and the edges that are left, as a plain law. RQ: what is kept by cuts: three neighbours and more. R13: rim.Run of a right graph. -/
import Derived.Test.YtnmocjhpbobahaaZ17
import Derived.Test.YtnmocjhpbobahaaZ34
import Derived.Test.YtnmocjhpbobahaaZ20
import Derived.Test.YtnmocjhpbobahaaZ21
import Derived.Test.YtnmocjhpbobahaaZ13
import Derived.Test.YtnmocjhpbobahaaZ41
import Derived.Test.YtnmocjhpbobahaaZ37
import Derived.Test.YtnmocjhpbobahaaZ38
set_option linter.unusedVariables false
set_option linter.unusedSimpArgs false
set_option linter.unnecessarySimpa false
namespace Go.Proofs.Ytnmocjhpbobahaa.L
open Go Go.RowKit
set_option maxRecDepth 100000
/-! ### the edges that are left -/
end Go.Proofs.Ytnmocjhpbobahaa.L
namespace Go.Proofs.Ytnmocjhpbobahaa.L
open Go Go.RowKit
set_option maxRecDepth 100000
/-- Each that is left has three neighbours and more; who is marked 1 has just three. -/
structure RstD (n : Nat) (r : Rst) : Prop extends RstI n r where
  d3 : ∀ v, v < n → nthB r.gone v = false → 3 ≤ deg r v
  lf : ∀ v, v < n → nthB r.gone v = false → nth r.mark v = 1 → deg r v = 3
theorem leftN_drop {g : List Bool} {n v : Nat} (hv : v < n) (hl : g.length = n) (h0 : nthB g v = false) : leftN g n = leftN (g.set v true) n + 1 := by
  have := leftN_set (by omega : v < g.length) h0 n
  rw [if_pos hv] at this
  omega
theorem six_left {g : List Bool} {n : Nat} (hl : g.length = n) : ∀ {l : List Nat}, l.Nodup → (∀ v ∈ l, v < n ∧ nthB g v = false) → l.length ≤ leftN g n := by
  intro l
  induction l generalizing g with
  | nil => intro _ _; exact Nat.zero_le _
  | cons v l ih =>
    intro hn h
    rw [List.nodup_cons] at hn
    obtain ⟨h1, h2⟩ := h v List.mem_cons_self
    have := ih (g := g.set v true) (by rw [List.length_set]; exact hl) hn.2 (fun u hu => by
      obtain ⟨h3, h4⟩ := h u (List.mem_cons_of_mem _ hu)
      refine ⟨h3, ?_⟩
      rw [nthB_set (by omega), if_neg (fun e => hn.1 (by rw [e]; exact hu))]
      exact h4)
    have e := leftN_drop h1 hl h2
    simp only [List.length_cons]
    omega
end Go.Proofs.Ytnmocjhpbobahaa.L
namespace Go.Proofs.Ytnmocjhpbobahaa.L
open Go Go.RowKit
set_option maxRecDepth 100000
set_option maxHeartbeats 4000000
def isFb (r : Rst) : Bool := decide (r.count = 4 ∧ edgE r r.near.length = 12)
def fitFb (r : Rst) : Bool := decide (cntM r 2 r.near.length ≤ 1 ∧ cntM r 1 r.near.length ≤ 3)
/-- The run's rounds. -/
def runF : Nat → Rst → List Cu → Int × List Cu
  | 0, _, cs => (4, cs)
  | k + 1, r, cs => if isFb r = true then (if fitFb r = true then (1, cs) else (6, cs)) else match leastF r with
    | none => (4, cs)
    | some e => if (doF r e).2 = true then runF k (doF r e).1 (cs ++ [e]) else (5, cs ++ [e])
@[simp] theorem sFourB {r : Rst} (h : FourOk r) : specFour [⟨.one, [.c (rstF r)]⟩] = some (twoB (isFb r) (fitFb r)) := sFour h
attribute [-simp] sFour
attribute [local simp] lendO
/-- What rim.Run answers of a right graph. -/
def runG (n : Nat) (es : List (Int × Int)) : Int × List Cu :=
  if n < 4 then (2, []) else if 0 < (n : Int) ∧ minL (degF n es es.length) < 3 then (3, []) else runF (n + 1) (beginF n es) []
noncomputable def specRunR : Spec := spec1 asGr fun g => when (RightG g.1 g.2) (tro (runG g.1.toNat g.2).1 (runG g.1.toNat g.2).2)
@[simp] theorem sRunR (n : Nat) (es : List (Int × Int)) (h : RightG n es) : specRunR [gr n es] = some (tro (runG n es).1 (runG n es).2) := by
  unfold specRunR; rw [spec1_v _ _ _ _ (asGr_gr (n : Int) es)]; exact when_pos _ h
end Go.Proofs.Ytnmocjhpbobahaa.L
