/- T15: carcanetref05.IsCycle. T14: walk.IsCycle. -/
import Derived.Test.YtngglgkemonibaaQ24
import Derived.Test.YtngglgkemonibaaQ10
import Derived.Test.YtngglgkemonibaaQ25
set_option linter.unusedVariables false
set_option linter.unusedSimpArgs false
set_option linter.unnecessarySimpa false
namespace Go.Proofs.Ytngglgkemonibaa.L
open Go Go.RowKit
set_option maxRecDepth 100000
set_option maxHeartbeats 4000000
def CycG (n : Int) (es : List (Int × Int)) (p : List Int) : Prop := PathG n es p ∧ 2 < p.length ∧ HasG n es (nth p (p.length - 1)) (nth p 0)
instance (n : Int) (es : List (Int × Int)) (p : List Int) : Decidable (CycG n es p) := by unfold CycG; infer_instance
abbrev E15 : Env := ext (ext env0 13 spec13) 27 spec27
theorem E15_ok : EnvOk Try.prog E15 := ext_ok (ext_ok env0_ok ok13) ok27
theorem w15 (n : Int) (es : List (Int × Int)) (p : List Int) (hp : p.length ≤ 17592186043904) : ∃ c, Try.f15.body = some c ∧ RP (regOf Try.prog E15 26 t15) c (argsSt 0 [gr n es, ints p]) (endsAs Try.prog Try.f15 (bv (decide (CycG n es p)))) := by
  refine ⟨_, rfl, ?_⟩
  generalize hQ : endsAs Try.prog Try.f15 (bv (decide (CycG n es p))) = Q
  simp only [argsSt]
  refine gs ?_
  by_cases hP : PathG n es p
  case neg =>
    have hans : decide (CycG n es p) = false := decide_eq_false fun h => hP h.1
    rw [hans] at hQ
    refine go ?_
    show Q .ret _; refine fin_ret hQ rfl ?_
    rfl
  by_cases h2 : 2 < p.length
  case neg =>
    have hans : decide (CycG n es p) = false := decide_eq_false fun h => h2 h.2.1
    rw [hans] at hQ
    refine go ?_
    show Q .ret _; refine fin_ret hQ rfl ?_
    rfl
  have e : decide (CycG n es p) = decide (HasG n es (nth p (p.length - 1)) (nth p 0)) := decide_eq_decide.2 ⟨fun h => h.2.2, fun h => ⟨hP, h2, h⟩⟩
  rw [e] at hQ
  refine go ?_
  show Q .ret _; refine fin_ret hQ rfl ?_
  rfl
def spec15 : Spec := spec2 asGr asInts fun g p => when (p.length ≤ 17592186043904) (bv (decide (CycG g.1 g.2 p)))
theorem ok15 : SpecOk 15 spec15 := by
  intro us r h
  obtain ⟨x, y, g, p, rfl, hg, hp, h⟩ := spec2_eq h
  obtain ⟨hl, rfl⟩ := when_eq h
  rw [asGr_eq hg, asInts_eq hp]
  exact goodBy E15_ok Try.func15 rfl (Nat.le_of_ble_eq_true rfl) (by decide) (w15 g.1 g.2 p hl)
@[simp] theorem s15 (n : Int) (es : List (Int × Int)) (p : List Int) (h : p.length ≤ 17592186043904) : spec15 [gr n es, ints p] = some (bv (decide (CycG n es p))) := by
  unfold spec15; rw [spec2_v (asGr_gr n es) (asInts_ints p)]; exact when_pos _ h
@[simp] theorem call15 {E : Env} {σ : St Unit} {t : Nat} {l : List Operand} : effCall Try.prog E ΩU σ t 15 l = callO E 15 t (argsOf Try.prog ΩU σ [24, 25] l) := eff_call Try.func15 Try.params15
end Go.Proofs.Ytngglgkemonibaa.L
namespace Go.Proofs.Ytngglgkemonibaa.L
open Go Go.RowKit
set_option maxRecDepth 100000
set_option maxHeartbeats 4000000
theorem HasG.symm {n : Int} {es : List (Int × Int)} {a b : Int} (h : HasG n es a b) : HasG n es b a := ⟨h.1, h.2.elim .inr .inl⟩
abbrev E14 : Env := ext (ext env0 12 spec12) 31 spec31
theorem w14 (n : Int) (es : List (Int × Int)) (p : List Int) (hp : p.length ≤ 17592186043904) : ∃ c, Try.f14.body = some c ∧ RP (regOf Try.prog E14 26 u14) c (argsSt 0 [gr n es, ints p]) (endsAs Try.prog Try.f14 (bv (decide (CycG n es p)))) := by
  refine ⟨_, rfl, ?_⟩
  generalize hQ : endsAs Try.prog Try.f14 (bv (decide (CycG n es p))) = Q
  simp only [argsSt]
  refine gs ?_
  by_cases h2 : 2 < p.length
  case neg =>
    have hans : decide (CycG n es p) = false := decide_eq_false fun h => h2 h.2.1
    rw [hans] at hQ
    refine go ?_
    show Q .ret _; refine fin_ret hQ rfl ?_
    rfl
  by_cases hP : PathG n es p
  case neg =>
    have hans : decide (CycG n es p) = false := decide_eq_false fun h => hP h.1
    rw [hans] at hQ
    refine go ?_
    show Q .ret _; refine fin_ret hQ rfl ?_
    rfl
  have hlen : es.length ≤ 4000 := hP.1.1.2.2
  have e : decide (CycG n es p) = decide (HasG n es (nth p 0) (nth p (p.length - 1))) := decide_eq_decide.2 ⟨fun h => h.2.2.symm, fun h => ⟨hP, h2, h.symm⟩⟩
  rw [e] at hQ
  refine go ?_
  show Q .ret _; refine fin_ret hQ rfl ?_
  rfl
def spec14 : Spec := spec2 asGr asInts fun g p => when (p.length ≤ 17592186043904) (bv (decide (CycG g.1 g.2 p)))
theorem ok14 (h31 : SpecOk 31 spec31) (h33 : SpecOk 33 spec33) : SpecOk 14 spec14 := by
  intro us r h
  obtain ⟨x, y, g, p, rfl, hg, hp, h⟩ := spec2_eq h
  obtain ⟨hl, rfl⟩ := when_eq h
  rw [asGr_eq hg, asInts_eq hp]
  exact goodBy2 (ext_ok (ext_ok env0_ok (ok12 h31 h33)) h31) Try.func14 rfl (Nat.le_of_ble_eq_true rfl) (by decide) (w14 g.1 g.2 p hl)
@[simp] theorem s14 (n : Int) (es : List (Int × Int)) (p : List Int) (h : p.length ≤ 17592186043904) : spec14 [gr n es, ints p] = some (bv (decide (CycG n es p))) := by
  unfold spec14; rw [spec2_v (asGr_gr n es) (asInts_ints p)]; exact when_pos _ h
@[simp] theorem call14 {E : Env} {σ : St Unit} {t : Nat} {l : List Operand} : effCall Try.prog E ΩU σ t 14 l = callO E 14 t (argsOf Try.prog ΩU σ [24, 25] l) := eff_call Try.func14 Try.params14
end Go.Proofs.Ytngglgkemonibaa.L
