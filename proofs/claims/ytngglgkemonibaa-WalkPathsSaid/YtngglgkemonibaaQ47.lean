/- T3: the law WalkPaths. -/
import Derived.Test.YtngglgkemonibaaQ45
import Derived.Test.YtngglgkemonibaaQ46
set_option linter.unusedVariables false
set_option linter.unusedSimpArgs false
set_option linter.unnecessarySimpa false
namespace Go.Proofs.Ytngglgkemonibaa.L
open Go Go.RowKit Go.Proofs.Ytngglgkemonibaa.B
set_option maxRecDepth 100000
set_option maxHeartbeats 4000000
noncomputable abbrev E3 : Env := ext (ext (ext (ext (ext (ext (ext env0 11 spec11) 12 spec12) 13 spec13) 14 spec14) 15 spec15) 16 spec16) 17 spec17
theorem E3_ok : EnvOk Try.prog E3 := ext_ok (ext_ok (ext_ok (ext_ok (ext_ok (ext_ok (ext_ok env0_ok ok11) (ok12 ok31 ok33)) ok13) (ok14 ok31 ok33)) ok15) (ok16 ok33)) ok17
theorem w3 (n : Int) (es : List (Int × Int)) (p : List Int) (hes : es.length ≤ 17592186043904) (hp : p.length ≤ 17592186043904) : ∃ c, Try.f3.body = some c ∧ RP (regOf Try.prog E3 50 u3) c (argsSt 0 [gr n es, ints p]) (endsAs Try.prog Try.f3 (bv true)) := by
  refine ⟨_, rfl, ?_⟩
  generalize hQ : endsAs Try.prog Try.f3 (bv true) = Q
  simp only [argsSt]
  repeat (first | (show RP _ (.seq (.region _ _ false) _) _ _; refine gs ?_) | (show RP _ (.seq (.region _ _ true) _) _ _; first | refine gD ?_ | refine gW ?_ | refine gm ?_) | (show RP _ (.cond _ _ _) _ _; first | refine gT ?_ | refine gF ?_) | apply gskip | apply rp_ret | apply rp_exit | apply rp_skip | apply rp_block | (show RP _ (.region _ _ false) _ _; refine ge ?_) | (show RP _ (.region _ _ true) _ _; first | refine gG ?_ | refine gV ?_ | refine gn ?_) | apply rp_seq)
  have h1 : (p.take (min p.length 60)).length ≤ 60 := by rw [List.length_take]; omega
  have h2 : (es.take (min es.length 300)).length ≤ 300 := by rw [List.length_take]; omega
  generalize p.take (min p.length 60) = p' at *
  generalize es.take (min es.length 300) = es' at *
  repeat (first | (show RP _ (.seq (.region _ _ false) _) _ _; refine gs ?_) | (show RP _ (.seq (.region _ _ true) _) _ _; first | refine gD ?_ | refine gW ?_ | refine gm ?_) | (show RP _ (.cond _ _ _) _ _; first | refine gT ?_ | refine gF ?_) | apply gskip | apply rp_ret | apply rp_exit | apply rp_skip | apply rp_block | (show RP _ (.region _ _ false) _ _; refine ge ?_) | (show RP _ (.region _ _ true) _ _; first | refine gG ?_ | refine gV ?_ | refine gn ?_) | apply rp_seq)
  show Q .ret _; refine fin_ret hQ rfl ?_
  rfl
theorem good3 (n : Int) (es : List (Int × Int)) (p : List Int) (hes : es.length ≤ 17592186043904) (hp : p.length ≤ 17592186043904) : Good Try.prog 3 [gr n es, ints p] (bv true) :=
  goodBy2 E3_ok Try.func3 rfl (Nat.le_of_ble_eq_true rfl) (by decide) (w3 n es p hes hp)
end Go.Proofs.Ytngglgkemonibaa.L
