/- U17: carcanetref20.Replay of a right graph: as the code's. -/
import Derived.Test.YtnmocjhpbobahaaQ42
import Derived.Test.YtnmocjhpbobahaaQ14
import Derived.Test.YtnmocjhpbobahaaQ43
import Derived.Test.YtnmocjhpbobahaaQ44
set_option linter.unusedVariables false
set_option linter.unusedSimpArgs false
set_option linter.unnecessarySimpa false
namespace Go.Proofs.Ytnmocjhpbobahaa.L
open Go Go.RowKit
set_option maxRecDepth 100000
set_option maxHeartbeats 4000000
attribute [local simp] lendO
noncomputable abbrev EReplT : Env := ext (ext (ext env0 23 spec34) 39 specAfter) 40 specStateT
theorem wReplT (n : Nat) (es : List (Int × Int)) (hR : RightG n es) (l : List Cu) (hl : l.length ≤ 1000000) : ∃ c, Try.f17.body = some c ∧ RP (regOf Try.prog EReplT 21 u17) c (argsSt 0 [gr n es, cuts l]) (endsAs Try.prog Try.f17 (stB (replF n (beginF n es) l).1 (replF n (beginF n es) l).2)) := by
  refine ⟨_, rfl, ?_⟩
  generalize hQ : endsAs Try.prog Try.f17 (stB (replF n (beginF n es) l).1 (replF n (beginF n es) l).2) = Q
  simp only [argsSt]
  have hn := hR.1
  have hRl : RightG n es ∧ l.length ≤ 1000000 := ⟨hR, hl⟩
  have hb := begin_agr hR
  obtain ⟨ha, hk⟩ := Agr.repl (n := n) (by omega) (l := l) hb
  have hin := ha.tb.inn
  have sok : StateT (replT (tbE n es es.length) l).1 := ⟨by rw [hin]; exact ha.tb, by omega⟩
  have e1 := (ha.left n (Nat.le_refl _)).1
  have e2 := (ha.left n (Nat.le_refl _)).2
  have e3 := ha.edges
  have hnn := ha.rst.near
  generalize hT : replT (tbE n es es.length) l = T at *
  generalize replF n (beginF n es) l = R at *
  unfold stB at hQ
  rw [hnn] at hQ
  refine go ?_
  rw [hT]
  refine go ?_
  rw [hin, e1, e2, e3, hk]
  show Q .ret _; refine fin_ret hQ rfl ?_
  rfl
theorem EReplT_ok : EnvOk Try.prog EReplT := ext_ok (ext_ok (ext_ok env0_ok ok34) okAfter) okStateT
noncomputable def specReplT : Spec := spec2 asGr asCuts fun g l => when (RightG g.1 g.2 ∧ l.length ≤ 1000000) (stB (replF g.1.toNat (beginF g.1.toNat g.2) l).1 (replF g.1.toNat (beginF g.1.toNat g.2) l).2)
theorem okReplT : SpecOk 17 specReplT := by
  intro us r h
  obtain ⟨x, y, g, l, rfl, hg, hl, h⟩ := spec2_eq h
  obtain ⟨⟨h1, h2⟩, rfl⟩ := when_eq h
  rw [asGr_eq hg, asCuts_eq hl]
  have h0 : ((g.1.toNat : Nat) : Int) = g.1 := by have := h1.1; omega
  have hw := wReplT g.1.toNat g.2 (by rw [h0]; exact h1) l h2
  rw [h0] at hw
  exact goodBy2 EReplT_ok Try.func17 rfl (Nat.le_of_ble_eq_true rfl) (by decide) hw
@[simp] theorem sReplT (n : Nat) (es : List (Int × Int)) (l : List Cu) (h : RightG n es ∧ l.length ≤ 1000000) : specReplT [gr n es, ⟨.one, [.c (.sl false 6 () (CL l))]⟩] = some (stB (replF n (beginF n es) l).1 (replF n (beginF n es) l).2) := by
  unfold specReplT; rw [spec2_v (asGr_gr (n : Int) es) (asCuts_cuts l)]; exact when_pos _ h
@[simp] theorem callReplT {E : Env} {σ : St Unit} {t : Nat} {l : List Operand} : effCall Try.prog E ΩU σ t 17 l = callO E 17 t (argsOf Try.prog ΩU σ [26, 29] l) := eff_call Try.func17 Try.params17
end Go.Proofs.Ytnmocjhpbobahaa.L
