/- R7c: the law RimKeeps, its run. -/
import Derived.Test.YtnmocjhpbobahaaQ42
set_option linter.unusedVariables false
set_option linter.unusedSimpArgs false
set_option linter.unnecessarySimpa false
namespace Go.Proofs.Ytnmocjhpbobahaa.L
open Go Go.RowKit
set_option maxRecDepth 100000
set_option maxHeartbeats 4000000
theorem wRimKeeps6 (n0 : Int) (l : List (Int × Int)) (p : Int) (hl : l.length ≤ 17592186043904) (he : (runG (anyN n0 20) (anyEs n0 20 l)).1 = 6) : ∃ c, Try.f7.body = some c ∧ RP (regOf Try.prog E7 159 u7) c (argsSt 0 [gr n0 l, iv p]) (endsAs Try.prog Try.f7 (bv true)) := by
  refine ⟨_, rfl, ?_⟩
  generalize hQ : endsAs Try.prog Try.f7 (bv true) = Q
  simp only [argsSt]
  have hR := any_right n0 (most := 20) (by omega) l
  have hN := (anyN_ok n0 20).1
  refine go ?_
  generalize anyEs n0 20 l = es at *
  generalize anyN n0 20 = n at *
  refine go ?_
  have kl := fun he m hm => keeps_law (n := n) (es := es) hR he (m := m) hm
  generalize hG : runG n es = g at *
  obtain ⟨e, cs⟩ := g
  simp only at kl
  subst he
  have kl := kl (by omega)
  have hcs := (kl cs.length (Nat.le_refl _)).2.2
  have hcl : cs.length ≤ 20 := by omega
  obtain ⟨m, hm, hmm⟩ := and16_mod p (cs.length + 1) (by omega)
  rw [show ((cs.length + 1 : Nat) : Int) = (cs.length : Int) + 1 from rfl] at hmm
  have hm' : m ≤ cs.length := by omega
  obtain ⟨k1, k2, k3, k4, k5⟩ := kl m hm'
  clear kl hcs
  have hrp : RightG n es ∧ (cs.take m).length ≤ 1000000 := ⟨hR, by rw [List.length_take]; omega⟩
  refine go ?_
  rw [hmm]
  refine go ?_
  rw [k2.near, k1]
  clear hG kl hrp
  generalize (replF n (beginF n es) (cs.take m)).1 = r at *
  have hRe := edges_right k2.toRstI (by omega : n ≤ 60)
  obtain ⟨hML, hel⟩ := left_marks r n
  have hLn := leftF_len r n
  have hcnt := k2.cnt
  have hdeg := fun v (hv : v < n) => edges_deg k2.toRstI (by omega : n ≤ 60) hv
  have hdl := degF_len n (edgesF r n) (edgesF r n).length
  generalize leftF r n = L at *
  generalize marksF r n = M at *
  generalize edgesF r n = E at *
  have f1 : M.length = L.length := hML.symm
  have f2 : (L.length : Int) ≤ (n : Int) - m := by omega
  have f3 : (n : Int) - 2 * m ≤ (L.length : Int) := by omega
  have f4 : 4 ≤ L.length := by omega
  have f5 : L.length ≤ 20 := by omega
  refine go ?_
  refine ge (hs := by simp (maxSteps := 4000000) (disch := first | (apply chkI; kernel_rfl) | omega | simp); rfl) ?_
  refine go ?_
  generalize degF n E E.length = D at *
  apply rp_loop (fun k σ => ∃ i : Nat, i ≤ L.length ∧ k = L.length - i ∧ σ = kpS n es L M D i) L.length
  · exact ⟨0, by omega, by omega, rfl⟩
  rintro k σ ⟨i, hi, rfl, rfl⟩
  by_cases hil : i < L.length
  · obtain ⟨v, hv, hv1, hv2, hv3⟩ := hel i hil
    have i2 : i < M.length := by omega
    have v2 : v < D.length := by omega
    have dv := hdeg v hv
    have d3 := k2.d3 v hv hv2
    have mk := k2.mks v hv
    have dl := k2.lf v hv hv2
    have dn := k2.toRstOk.len hv
    rw [← hv3] at mk dl
    unfold deg at dv d3 dl
    have d3' : 3 ≤ nth D v := by omega
    have dn' : nth D v ≤ 20 := by omega
    rcases mk with mk | mk | mk
    · refine go ?_
      rw [hv1]
      refine go ?_
      refine ge (hs := by simp (maxSteps := 4000000) (disch := first | (apply chkI; kernel_rfl) | omega | simp); rfl) ?_
      refine go ?_
      exact nxt (L.length - (i + 1)) (by omega) ⟨i + 1, by omega, rfl, rfl⟩
    · have dl' : nth D v = 3 := by have := dl mk; omega
      refine go ?_
      rw [hv1]
      refine go ?_
      refine ge (hs := by simp (maxSteps := 4000000) (disch := first | (apply chkI; kernel_rfl) | omega | simp); rfl) ?_
      refine go ?_
      exact nxt (L.length - (i + 1)) (by omega) ⟨i + 1, by omega, rfl, rfl⟩
    · refine go ?_
      rw [hv1]
      refine go ?_
      refine ge (hs := by simp (maxSteps := 4000000) (disch := first | (apply chkI; kernel_rfl) | omega | simp); rfl) ?_
      refine go ?_
      exact nxt (L.length - (i + 1)) (by omega) ⟨i + 1, by omega, rfl, rfl⟩
  obtain rfl : i = L.length := by omega
  refine go ?_
  show Q .ret _; refine fin_ret hQ rfl ?_
  rfl
end Go.Proofs.Ytnmocjhpbobahaa.L
