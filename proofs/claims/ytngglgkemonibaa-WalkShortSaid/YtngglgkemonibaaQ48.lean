/- T7: the law WalkShort. -/
import Derived.Test.YtngglgkemonibaaQ27
import Derived.Test.YtngglgkemonibaaQ28
import Derived.Test.YtngglgkemonibaaQ47
set_option linter.unusedVariables false
set_option linter.unusedSimpArgs false
set_option linter.unnecessarySimpa false
namespace Go.Proofs.Ytngglgkemonibaa.L
open Go Go.RowKit Go.Proofs.Ytngglgkemonibaa.B
set_option maxRecDepth 100000
set_option maxHeartbeats 4000000
@[simp] theorem s18_40 (n : Int) (l : List (Int × Int)) (hl : l.length ≤ 17592186043904) : spec18 [gr n l, iv 40] = some (gro (anyN n 40) (anyEs n 40 l)) := s18 n l 40 hl (by omega)
@[simp] theorem und29 : Try.prog.underlying 29 = some (.array 2 3) := by kernel_rfl
@[simp] theorem cells29 : Try.prog.cellsOf 29 = 2 := by kernel_rfl
noncomputable abbrev E7 : Env := ext (ext (ext (ext (ext (ext (ext env0 11 spec11) 18 spec18) 20 spec20) 12 spec12) 26 spec26) 19 spec19) 27 spec27
theorem E7_ok : EnvOk Try.prog E7 := ext_ok (ext_ok (ext_ok (ext_ok (ext_ok (ext_ok (ext_ok env0_ok ok11) ok18) ok20) (ok12 ok31 ok33)) ok26) ok19) ok27
theorem w7 (n : Int) (l : List (Int × Int)) (a0 b0 : Int) (p0 : List Int) (hl : l.length ≤ 17592186043904) (hp0 : p0.length ≤ 17592186043904) : ∃ c, Try.f7.body = some c ∧ RP (regOf Try.prog E7 125 u7) c (argsSt 0 [gr n l, ⟨.agg, [.c (.sc (.int .i64 a0)), .c (.sc (.int .i64 b0))]⟩, ints p0]) (endsAs Try.prog Try.f7 (bv true)) := by
  refine ⟨_, rfl, ?_⟩
  generalize hQ : endsAs Try.prog Try.f7 (bv true) = Q
  simp only [argsSt]
  refine go ?_
  have h1 : (p0.take (min p0.length 30)).length ≤ 30 := by rw [List.length_take]; omega
  have hR := any_right n (most := 40) (by omega) l
  generalize p0.take (min p0.length 30) = away at *
  generalize anyEs n 40 l = es at *
  generalize anyN n 40 = N at *
  clear hl hp0 p0 l n
  have hes : es.length ≤ 4000 := hR.1.2.2
  have hN : N ≤ 1000 := by have := hR.1; omega
  by_cases hN0 : N = 0
  · subst hN0
    refine go ?_
    show Q .ret _; refine fin_ret hQ rfl ?_
    rfl
  obtain ⟨f1, hf1, e1⟩ := and16_mod a0 N (by omega)
  obtain ⟨f2, hf2, e2⟩ := and16_mod b0 N (by omega)
  have hfr1 : (0 : Int) ≤ f1 ∧ (f1 : Int) < N := by omega
  have hfr2 : (0 : Int) ≤ f2 ∧ (f2 : Int) < N := by omega
  have hback := routeP_back (es := es) (away := away) hR hfr1 hfr2
  refine go ?_
  rw [e1, e2]
  refine go ?_
  have hPl := routeP_len N es f1 f2 away
  have hroute := fun h => route_path hR hfr1 hfr2 (routeP_route (es := es) (away := away) hR hfr1 hfr2 h)
  generalize routeP N es f1 f2 away = p at *
  clear hback e1 e2
  by_cases hp0 : p = []
  · refine go ?_
    show Q .ret _; refine fin_ret hQ rfl ?_
    rfl
  obtain ⟨hpath, hfst, hlst, hon, hch⟩ := hroute (List.length_pos_iff.2 hp0)
  clear hroute
  have hp1 : 0 < p.length := List.length_pos_iff.2 hp0
  refine go ?_
  refine RP.mono (Q := fun e σ => e = .exit 0 ∧ ∃ i : Nat, σ = [(2, ints away), (7, bv true), (8, gbo N es), (10, iv f2), (11, ow p), (13, iv i), (82, bv false)]) ?_ ?_
  · apply rp_loop (fun k σ => ∃ i : Nat, i ≤ p.length ∧ k = p.length - i ∧ σ = [(2, ints away), (7, bv true), (8, gbo N es), (10, iv f2), (11, ow p), (13, iv i)]) p.length
    · exact ⟨0, by omega, by omega, rfl⟩
    rintro k σ ⟨i, hi, rfl, rfl⟩
    by_cases hil : i < p.length
    case neg =>
      refine go ?_
      exact ⟨rfl, i, rfl⟩
    obtain ⟨hna, hdrop⟩ := hon i hil
    have hrl : (routeP N es (nth p i) f2 away).length ≤ 2 ^ 59 := by have := routeP_len N es (nth p i) f2 away; omega
    have hsame : routeP N es (nth p i) f2 away = List.take (p.length - i) (List.drop i p) := by rw [hdrop, List.take_of_length_le (by simp)]
    clear hdrop
    refine go ?_
    refine RP.mono (Q := fun e σ => e = .exit 2 ∧ ∃ k : Nat, σ = [(2, ints away), (7, bv true), (8, gbo N es), (10, iv f2), (11, ow p), (13, iv i), (14, iv k), (111, bv false)]) ?_ ?_
    · apply rp_loop (fun m σ => ∃ k : Nat, i + 2 ≤ k ∧ m = p.length - k ∧ σ = [(2, ints away), (7, bv true), (8, gbo N es), (10, iv f2), (11, ow p), (13, iv i), (14, iv k)]) (p.length - (i + 2))
      · exact ⟨i + 2, by omega, by omega, rfl⟩
      rintro m σ ⟨k, hk, rfl, rfl⟩
      by_cases hkl : k < p.length
      case neg =>
        refine go ?_
        exact ⟨rfl, k, rfl⟩
      have hno := hch i k hk hkl
      refine go ?_
      exact nxt (p.length - (k + 1)) (by omega) ⟨k + 1, by omega, by omega, rfl⟩
    rintro e σ ⟨rfl, k, rfl⟩
    simp only [inBlock_exit, if_true, thenR_normal]
    refine go ?_
    exact nxt (p.length - (i + 1)) (by omega) ⟨i + 1, by omega, by omega, rfl⟩
  rintro e σ ⟨rfl, i, rfl⟩
  simp only [inBlock_exit, if_true, thenR_normal]
  refine go ?_
  show Q .ret _; refine fin_ret hQ rfl ?_
  rfl
theorem good7 (n : Int) (l : List (Int × Int)) (a b : Int) (p : List Int) (hl : l.length ≤ 17592186043904) (hp : p.length ≤ 17592186043904) : Good Try.prog 7 [gr n l, ⟨.agg, [.c (.sc (.int .i64 a)), .c (.sc (.int .i64 b))]⟩, ints p] (bv true) :=
  goodBy2 E7_ok Try.func7 rfl (Nat.le_of_ble_eq_true rfl) (by decide) (w7 n l a b p hl hp)
end Go.Proofs.Ytngglgkemonibaa.L
