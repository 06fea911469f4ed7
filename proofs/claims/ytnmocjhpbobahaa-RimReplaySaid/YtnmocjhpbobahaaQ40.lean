/- R16: carcanetlaw20.ours. RW: rim.Run, Replay, Refutes of a graph that is not right. -/
import Derived.Test.YtnmocjhpbobahaaQ8
import Derived.Test.YtnmocjhpbobahaaQ9
import Derived.Test.YtnmocjhpbobahaaQ35
set_option linter.unusedVariables false
set_option linter.unusedSimpArgs false
set_option linter.unnecessarySimpa false
namespace Go.Proofs.Ytnmocjhpbobahaa.L
open Go Go.RowKit
set_option maxRecDepth 100000
set_option maxHeartbeats 4000000
theorem wOurs (e : Int) (l : List Cu) (hl : l.length ≤ 17592186043904) : ∃ c, Try.f16.body = some c ∧ RP (regOf Try.prog env0 30 u16) c (argsSt 0 [tr e l]) (endsAs Try.prog Try.f16 (tro e (l.take 30))) := by
  refine ⟨_, rfl, ?_⟩
  generalize hQ : endsAs Try.prog Try.f16 (tro e (l.take 30)) = Q
  simp only [argsSt]
  refine go ?_
  apply rp_loop (fun k σ => ∃ i : Nat, i ≤ l.length ∧ i ≤ 30 ∧ k = 30 - i ∧ σ = [(1, trbx e l), (2, trobx 0 []), (3, trobx e (l.take i)), (4, iv i)]) 30
  · exact ⟨0, by omega, by omega, rfl, rfl⟩
  rintro k σ ⟨i, hi, hi30, rfl, rfl⟩
  by_cases hil : i < l.length
  case neg =>
    have e1 : l.take i = l.take 30 := by rw [List.take_of_length_le (by omega), List.take_of_length_le (by omega)]
    rw [e1]
    refine go ?_
    show Q .ret _; refine fin_ret hQ rfl ?_
    rfl
  by_cases h30 : i < 30
  case neg =>
    obtain rfl : i = 30 := by omega
    refine go ?_
    show Q .ret _; refine fin_ret hQ rfl ?_
    rfl
  have htl : (l.take i).length = i := by rw [List.length_take]; omega
  have hap : l.take (i + 1) = l.take i ++ [cuAt l i] := cuAt_take hil
  generalize l.take i = acc at htl hap
  refine go ?_
  refine nxt (30 - (i + 1)) (by omega) ⟨i + 1, by omega, by omega, rfl, ?_⟩
  rw [hap]
  rfl
def specOurs : Spec := spec1 asTr fun x => when (x.2.length ≤ 17592186043904) (tro x.1 (x.2.take 30))
theorem okOurs : SpecOk 16 specOurs := by
  intro us r h
  obtain ⟨x, l, rfl, hl, h⟩ := spec1_eq h
  obtain ⟨h1, rfl⟩ := when_eq h
  rw [asTr_eq hl]
  exact goodBy2 env0_ok Try.func16 rfl (Nat.le_of_ble_eq_true rfl) (by decide) (wOurs _ _ h1)
@[simp] theorem sOurs (e : Int) (l : List Cu) (h : l.length ≤ 17592186043904) : specOurs [tr e l] = some (tro e (l.take 30)) := by
  unfold specOurs; rw [spec1_v _ _ _ _ (asTr_tr e l)]; exact when_pos _ h
@[simp] theorem callOurs {E : Env} {σ : St Unit} {t : Nat} {l : List Operand} : effCall Try.prog E ΩU σ t 16 l = callO E 16 t (argsOf Try.prog ΩU σ [31] l) := eff_call Try.func16 Try.params16
end Go.Proofs.Ytnmocjhpbobahaa.L
namespace Go.Proofs.Ytnmocjhpbobahaa.L
open Go Go.RowKit
set_option maxRecDepth 100000
set_option maxHeartbeats 4000000
def specRunW : Spec := spec1 asGr fun g => when (¬ RightG g.1 g.2) (tro 0 [])
@[simp] theorem sRunW (n : Int) (es : List (Int × Int)) (h : ¬ RightG n es) : specRunW [gr n es] = some (tro 0 []) := by
  unfold specRunW; rw [spec1_v _ _ _ _ (asGr_gr n es)]; exact when_pos _ h
@[simp] theorem callRun {E : Env} {σ : St Unit} {t : Nat} {l : List Operand} : effCall Try.prog E ΩU σ t 13 l = callO E 13 t (argsOf Try.prog ΩU σ [26] l) := eff_call Try.func13 Try.params13
abbrev noState : SV Unit := ⟨.tup [some 3, none], [.c (.sl true 1 () []), .c (.sl true 2 () []), .c (.sl true 1 () []), .c (.sc (.int .i64 0))]⟩
def specReplayW : Spec := spec2 asGr asCuts fun g _ => when (¬ RightG g.1 g.2) noState
@[simp] theorem sReplayW (n : Int) (es : List (Int × Int)) (l : List Cu) (h : ¬ RightG n es) : specReplayW [gr n es, cuts l] = some noState := by
  unfold specReplayW; rw [spec2_v (asGr_gr n es) (asCuts_cuts l)]; exact when_pos _ h
@[simp] theorem callReplay {E : Env} {σ : St Unit} {t : Nat} {l : List Operand} : effCall Try.prog E ΩU σ t 15 l = callO E 15 t (argsOf Try.prog ΩU σ [26, 33] l) := eff_call Try.func15 Try.params15
def specRefutesW : Spec := spec2 asGr asTr fun g _ => when (¬ RightG g.1 g.2) (bv false)
@[simp] theorem sRefutesW (n : Int) (es : List (Int × Int)) (e : Int) (l : List Cu) (h : ¬ RightG n es) : specRefutesW [gr n es, tr e l] = some (bv false) := by
  unfold specRefutesW; rw [spec2_v (asGr_gr n es) (asTr_tr e l)]; exact when_pos _ h
@[simp] theorem callRefutes {E : Env} {σ : St Unit} {t : Nat} {l : List Operand} : effCall Try.prog E ΩU σ t 19 l = callO E 19 t (argsOf Try.prog ΩU σ [26, 35] l) := eff_call Try.func19 Try.params19
end Go.Proofs.Ytnmocjhpbobahaa.L
