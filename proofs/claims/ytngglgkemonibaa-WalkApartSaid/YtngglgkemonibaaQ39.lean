/- T38: carcanetref03.Near. -/
import Derived.Test.YtngglgkemonibaaQ14
import Derived.Test.YtngglgkemonibaaQ11
import Derived.Test.YtngglgkemonibaaQ21
set_option linter.unusedVariables false
set_option linter.unusedSimpArgs false
set_option linter.unnecessarySimpa false
namespace Go.Proofs.Ytngglgkemonibaa.L
open Go Go.RowKit
set_option maxRecDepth 100000
set_option maxHeartbeats 4000000
def nb1 (v : Int) (e : Int × Int) : List Int := (if e.1 = v then [e.2] else []) ++ (if e.2 = v then [e.1] else [])
def nbL (es : List (Int × Int)) (v : Int) : List Int := es.flatMap (nb1 v)
def nearR (n : Int) (es : List (Int × Int)) (v : Int) : List Int := if RightG n es then sortR (nbL es v) else []
theorem nb1_len (v : Int) (e : Int × Int) : (nb1 v e).length ≤ 2 := by unfold nb1; split <;> split <;> simp
theorem nbL_len (es : List (Int × Int)) (v : Int) : (nbL es v).length ≤ 2 * es.length := by
  induction es with
  | nil => simp [nbL]
  | cons e l ih => have := nb1_len v e; simp only [nbL, List.flatMap_cons, List.length_append, List.length_cons] at ih ⊢; omega
theorem nbL_take (es : List (Int × Int)) (v : Int) (i : Nat) (h : i < es.length) : nbL (es.take (i + 1)) v = nbL (es.take i) v ++ nb1 v (ent es i) := by
  rw [ent_take h]; simp [nbL]
abbrev E38 : Env := ext (ext env0 34 spec34) 55 spec55
theorem E38_ok : EnvOk Try.prog E38 := ext_ok (ext_ok env0_ok ok34) ok55
theorem w38 (n : Int) (es : List (Int × Int)) (v : Int) : ∃ c, Try.f38.body = some c ∧ RP (regOf Try.prog E38 55 t38) c (argsSt 0 [gr n es, iv v]) (endsAs Try.prog Try.f38 (ow (nearR n es v))) := by
  refine ⟨_, rfl, ?_⟩
  generalize hQ : endsAs Try.prog Try.f38 (ow (nearR n es v)) = Q
  simp only [argsSt]
  by_cases hR : RightG n es
  case neg =>
    have hans : nearR n es v = [] := if_neg hR
    rw [hans] at hQ
    repeat (first | (show RP _ (.seq (.region _ _ false) _) _ _; refine gs ?_) | (show RP _ (.seq (.region _ _ true) _) _ _; first | refine gD ?_ | refine gW ?_ | refine gm ?_) | (show RP _ (.cond _ _ _) _ _; first | refine gT ?_ | refine gF ?_) | apply gskip | apply rp_ret | apply rp_exit | apply rp_skip | apply rp_block | (show RP _ (.region _ _ false) _ _; refine ge ?_) | (show RP _ (.region _ _ true) _ _; first | refine gG ?_ | refine gV ?_ | refine gn ?_) | apply rp_seq)
    show Q .ret _; refine fin_ret hQ rfl ?_
    rfl
  have hlen : es.length ≤ 4000 := hR.1.2.2
  have hans : nearR n es v = sortR (nbL es v) := if_pos hR
  rw [hans] at hQ
  repeat (first | (show RP _ (.seq (.region _ _ false) _) _ _; refine gs ?_) | (show RP _ (.seq (.region _ _ true) _) _ _; first | refine gD ?_ | refine gW ?_ | refine gm ?_) | (show RP _ (.cond _ _ _) _ _; first | refine gT ?_ | refine gF ?_) | apply gskip | apply rp_ret | apply rp_exit | apply rp_skip | apply rp_block | (show RP _ (.region _ _ false) _ _; refine ge ?_) | (show RP _ (.region _ _ true) _ _; first | refine gG ?_ | refine gV ?_ | refine gn ?_) | apply rp_seq)
  apply rp_loop (fun k σ => ∃ i : Nat, i ≤ es.length ∧ k = es.length - i ∧ σ = [(1, iv v), (2, gbx n es), (4, SV.dead), (5, ow (nbL (es.take i) v)), (6, iv i)]) es.length
  · exact ⟨0, by omega, by omega, rfl⟩
  rintro k σ ⟨i, hi, rfl, rfl⟩
  have hl2 := nbL_len (es.take i) v
  have hl3 : (es.take i).length ≤ i := by simp; omega
  by_cases hil : i < es.length
  case neg =>
    have hti : es.take i = es := List.take_of_length_le (by omega)
    rw [hti] at hl2 hl3 ⊢
    repeat (first | (show RP _ (.seq (.region _ _ false) _) _ _; refine gs ?_) | (show RP _ (.seq (.region _ _ true) _) _ _; first | refine gD ?_ | refine gW ?_ | refine gm ?_) | (show RP _ (.cond _ _ _) _ _; first | refine gT ?_ | refine gF ?_) | apply gskip | apply rp_ret | apply rp_exit | apply rp_skip | apply rp_block | (show RP _ (.region _ _ false) _ _; refine ge ?_) | (show RP _ (.region _ _ true) _ _; first | refine gG ?_ | refine gV ?_ | refine gn ?_) | apply rp_seq)
    show Q .ret _; refine fin_ret hQ rfl ?_
    rfl
  have e := nbL_take es v i hil
  unfold nb1 at e
  generalize nbL (es.take i) v = A at *
  by_cases h1 : (ent es i).1 = v <;> by_cases h2 : (ent es i).2 = v
  all_goals
    first | rw [if_pos h1] at e | rw [if_neg h1] at e
    first | rw [if_pos h2] at e | rw [if_neg h2] at e
    repeat (first | (show RP _ (.seq (.region _ _ false) _) _ _; refine gs ?_) | (show RP _ (.seq (.region _ _ true) _) _ _; first | refine gD ?_ | refine gW ?_ | refine gm ?_) | (show RP _ (.cond _ _ _) _ _; first | refine gT ?_ | refine gF ?_) | apply gskip | apply rp_ret | apply rp_exit | apply rp_skip | apply rp_block | (show RP _ (.region _ _ false) _ _; refine ge ?_) | (show RP _ (.region _ _ true) _ _; first | refine gG ?_ | refine gV ?_ | refine gn ?_) | apply rp_seq)
    refine nxt (es.length - (i + 1)) (by omega) ⟨i + 1, by omega, by omega, ?_⟩
    rw [e]
    simp
def spec38 : Spec := spec2 asGr asInt fun g v => some (ow (nearR g.1 g.2 v))
theorem ok38 : SpecOk 38 spec38 := by
  intro us r h
  obtain ⟨x, y, g, v, rfl, hg, hv, h⟩ := spec2_eq h
  obtain rfl := Option.some.inj h
  rw [asGr_eq hg, asInt_eq hv]
  exact goodBy E38_ok Try.func38 rfl (Nat.le_of_ble_eq_true rfl) (by decide) (w38 g.1 g.2 v)
@[simp] theorem s38 (n : Int) (es : List (Int × Int)) (v : Int) : spec38 [gr n es, iv v] = some (ow (nearR n es v)) := by
  unfold spec38; rw [spec2_v (asGr_gr n es) (asInt_iv v)]
@[simp] theorem call38 {E : Env} {σ : St Unit} {t : Nat} {l : List Operand} : effCall Try.prog E ΩU σ t 38 l = callO E 38 t (argsOf Try.prog ΩU σ [24, 3] l) := eff_call Try.func38 Try.params38
end Go.Proofs.Ytngglgkemonibaa.L
