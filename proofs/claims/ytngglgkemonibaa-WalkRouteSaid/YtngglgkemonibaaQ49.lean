/- T4: the law WalkRoute. -/
import Derived.Test.YtngglgkemonibaaQ28
import Derived.Test.YtngglgkemonibaaQ29
import Derived.Test.YtngglgkemonibaaQ48
set_option linter.unusedVariables false
set_option linter.unusedSimpArgs false
set_option linter.unnecessarySimpa false
namespace Go.Proofs.Ytngglgkemonibaa.L
open Go Go.RowKit Go.Proofs.Ytngglgkemonibaa.B
set_option maxRecDepth 100000
set_option maxHeartbeats 4000000
theorem routeP_len (n : Int) (es : List (Int × Int)) (a b : Int) (away : List Int) : (routeP n es a b away).length ≤ 1000 := by
  unfold routeP
  split
  · next h =>
    split
    · next h2 =>
      rcases h2.choose_spec with hr | hr
      · obtain ⟨N, hN⟩ : ∃ N : Nat, n = N := ⟨n.toNat, by omega⟩
        have hR := h.1
        have hadjr : ∀ u v, adj es u v → 0 ≤ v ∧ v < (N : Int) := fun u v hh => by
          rcases hh with hh | hh
          · have := hR.mem hh; omega
          · have := hR.mem hh; omega
        obtain ⟨q, q1, q2⟩ := hr.1.short hadjr (by omega)
        have hn := hR.1
        rcases hr.2 q q1 with k | ⟨k, _⟩
        · omega
        · omega
      · rw [hr.1]; simp
    · simp
  · simp
@[simp] theorem s18_15 (n : Int) (l : List (Int × Int)) (hl : l.length ≤ 17592186043904) : spec18 [gr n l, iv 15] = some (gro (anyN n 15) (anyEs n 15 l)) := s18 n l 15 hl (by omega)
noncomputable abbrev E4 : Env := ext (ext (ext (ext (ext env0 11 spec11) 18 spec18) 20 spec20) 21 spec21) 19 spec19
theorem E4_ok : EnvOk Try.prog E4 := ext_ok (ext_ok (ext_ok (ext_ok (ext_ok env0_ok ok11) ok18) ok20) ok21) ok19
@[simp] theorem und29 : Try.prog.underlying 29 = some (.array 2 3) := by kernel_rfl
@[simp] theorem cells29 : Try.prog.cellsOf 29 = 2 := by kernel_rfl
theorem w4 (n : Int) (l : List (Int × Int)) (a b : Int) (p0 : List Int) (hl : l.length ≤ 17592186043904) (hp0 : p0.length ≤ 17592186043904) : ∃ c, Try.f4.body = some c ∧ RP (regOf Try.prog E4 35 u4) c (argsSt 0 [gr n l, ⟨.agg, [.c (.sc (.int .i64 a)), .c (.sc (.int .i64 b))]⟩, ints p0]) (endsAs Try.prog Try.f4 (bv true)) := by
  refine ⟨_, rfl, ?_⟩
  generalize hQ : endsAs Try.prog Try.f4 (bv true) = Q
  simp only [argsSt]
  refine go ?_
  have h1 : (p0.take (min p0.length 30)).length ≤ 17592186043904 := by rw [List.length_take]; omega
  generalize p0.take (min p0.length 30) = p at *
  generalize anyEs n 15 l = es at *
  generalize anyN n 15 = N at *
  clear hl hp0
  have h2 : (routeP N es a b p).length ≤ 2 ^ 59 := by have := routeP_len N es a b p; omega
  refine go ?_
  show Q .ret _; refine fin_ret hQ rfl ?_
  rfl
theorem good4 (n : Int) (l : List (Int × Int)) (a b : Int) (p : List Int) (hl : l.length ≤ 17592186043904) (hp : p.length ≤ 17592186043904) : Good Try.prog 4 [gr n l, ⟨.agg, [.c (.sc (.int .i64 a)), .c (.sc (.int .i64 b))]⟩, ints p] (bv true) :=
  goodBy2 E4_ok Try.func4 rfl (Nat.le_of_ble_eq_true rfl) (by decide) (w4 n l a b p hl hp)
end Go.Proofs.Ytngglgkemonibaa.L
