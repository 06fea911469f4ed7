/- R16: carcanetlaw20.ours. RW: rim.Run, Replay, Refutes of a graph that is not right. -/
import Derived.Test.YtnmocjhpbobahaaQ8
import Derived.Test.YtnmocjhpbobahaaQ9
import Derived.Test.YtnmocjhpbobahaaQ36
set_option linter.unusedVariables false
set_option linter.unusedSimpArgs false
set_option linter.unnecessarySimpa false
namespace Go.Proofs.Ytnmocjhpbobahaa.L
open Go Go.RowKit
set_option maxRecDepth 100000
set_option maxHeartbeats 4000000
def specOurs : Spec := spec1 asTr fun x => when (x.2.length ≤ 17592186043904) (tro x.1 (x.2.take 30))
@[simp] theorem sOurs (e : Int) (l : List Cu) (h : l.length ≤ 17592186043904) : specOurs [tr e l] = some (tro e (l.take 30)) := by
  unfold specOurs; rw [spec1_v _ _ _ _ (asTr_tr e l)]; exact when_pos _ h
@[simp] theorem callOurs {E : Env} {σ : St Unit} {t : Nat} {l : List Operand} : effCall Try.prog E ΩU σ t 16 l = callO E 16 t (argsOf Try.prog ΩU σ [31] l) := eff_call Try.func16 Try.params16
end Go.Proofs.Ytnmocjhpbobahaa.L
namespace Go.Proofs.Ytnmocjhpbobahaa.L
open Go Go.RowKit
set_option maxRecDepth 100000
set_option maxHeartbeats 4000000
def specRunW : Spec := spec1 asGr fun g => when (¬ RightG g.1 g.2) (tro 0 [])
@[simp] theorem sRunW (n : Int) (es : List (Int × Int)) (h : ¬ RightG n es) : specRunW [gr n es] = some (tro 0 []) := by
  unfold specRunW; rw [spec1_v _ _ _ _ (asGr_gr n es)]; exact when_pos _ h
@[simp] theorem callRun {E : Env} {σ : St Unit} {t : Nat} {l : List Operand} : effCall Try.prog E ΩU σ t 13 l = callO E 13 t (argsOf Try.prog ΩU σ [26] l) := eff_call Try.func13 Try.params13
abbrev noState : SV Unit := ⟨.tup [some 3, none], [.c (.sl true 1 () []), .c (.sl true 2 () []), .c (.sl true 1 () []), .c (.sc (.int .i64 0))]⟩
def specReplayW : Spec := spec2 asGr asCuts fun g _ => when (¬ RightG g.1 g.2) noState
@[simp] theorem sReplayW (n : Int) (es : List (Int × Int)) (l : List Cu) (h : ¬ RightG n es) : specReplayW [gr n es, cuts l] = some noState := by
  unfold specReplayW; rw [spec2_v (asGr_gr n es) (asCuts_cuts l)]; exact when_pos _ h
@[simp] theorem callReplay {E : Env} {σ : St Unit} {t : Nat} {l : List Operand} : effCall Try.prog E ΩU σ t 15 l = callO E 15 t (argsOf Try.prog ΩU σ [26, 33] l) := eff_call Try.func15 Try.params15
def specRefutesW : Spec := spec2 asGr asTr fun g _ => when (¬ RightG g.1 g.2) (bv false)
@[simp] theorem sRefutesW (n : Int) (es : List (Int × Int)) (e : Int) (l : List Cu) (h : ¬ RightG n es) : specRefutesW [gr n es, tr e l] = some (bv false) := by
  unfold specRefutesW; rw [spec2_v (asGr_gr n es) (asTr_tr e l)]; exact when_pos _ h
@[simp] theorem callRefutes {E : Env} {σ : St Unit} {t : Nat} {l : List Operand} : effCall Try.prog E ΩU σ t 19 l = callO E 19 t (argsOf Try.prog ΩU σ [26, 35] l) := eff_call Try.func19 Try.params19
end Go.Proofs.Ytnmocjhpbobahaa.L
