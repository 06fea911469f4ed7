/- R27: rim.begin. -/
import Derived.Test.YtnmocjhpbobahaaQ36
set_option linter.unusedVariables false
set_option linter.unusedSimpArgs false
set_option linter.unnecessarySimpa false
namespace Go.Proofs.Ytnmocjhpbobahaa.L
open Go Go.RowKit
set_option maxRecDepth 100000
set_option maxHeartbeats 4000000
attribute [local simp] lendO
noncomputable abbrev EBegin : Env := ext env0 50 specSort
theorem wBegin (n : Nat) (es : List (Int × Int)) (hR : RightG n es) : ∃ k, Try.f27.body = some k ∧ RP (regOf Try.prog EBegin 80 u27) k (argsSt 0 [gr n es]) (endsAs Try.prog Try.f27 (one (.c (rstO (beginF n es))))) := by
  refine ⟨_, rfl, ?_⟩
  generalize hQ : endsAs Try.prog Try.f27 (one (.c (rstO (beginF n es)))) = Q
  simp only [argsSt]
  have hn : n ≤ 1000 ∧ es.length ≤ 4000 := by have := hR.1; omega
  have b1 : n ≤ 1000 := hn.1
  have b2 : es.length ≤ 4000 := hn.2
  have b3 : 0 ≤ (n : Int) ∧ (n : Int) ≤ 1000 := by omega
  refine go ?_
  have key := right_rng hR
  apply rp_loop (fun k σ => ∃ i : Nat, i ≤ es.length ∧ k = es.length - i ∧ σ = [(3, one (.c (rstO ⟨rowsA n es i, List.replicate n 0, List.replicate n false, n⟩))), (22, ⟨.one, [.c (.sl false 2 () (EL es))]⟩), (23, iv es.length), (24, iv i)]) es.length
  · exact ⟨0, by omega, by omega, rfl⟩
  rintro k σ ⟨i, hi, rfl, rfl⟩
  have l1 := rowsA_len n es i
  have l2 := rowsA_le n es i
  by_cases hil : i < es.length
  · obtain ⟨e1, e2, e3, e4, e5⟩ := key i hil
    have hs : rowsA n es (i + 1) = ((rowsA n es i).set (ent es i).1.toNat (nthR (rowsA n es i) (ent es i).1.toNat ++ [(ent es i).2])).set (ent es i).2.toNat (nthR ((rowsA n es i).set (ent es i).1.toNat (nthR (rowsA n es i) (ent es i).1.toNat ++ [(ent es i).2])) (ent es i).2.toNat ++ [(ent es i).1]) := rfl
    generalize hE : ent es i = e at *
    obtain ⟨a, b⟩ := e
    simp only at e1 e2 e3 e4 e5 hs
    obtain ⟨x, rfl⟩ : ∃ x : Nat, a = (x : Int) := ⟨a.toNat, by omega⟩
    obtain ⟨y, rfl⟩ : ∃ y : Nat, b = (y : Int) := ⟨b.toNat, by omega⟩
    simp only [Int.toNat_natCast] at hs
    have x1 : x < (rowsA n es i).length := by omega
    have y1 : y < (rowsA n es i).length := by omega
    have hxy : ¬ x = y := by omega
    have hyx : nthR ((rowsA n es i).set x (nthR (rowsA n es i) x ++ [(y : Int)])) y = nthR (rowsA n es i) y := by rw [nthR_set x1, if_neg hxy]
    have lx := l2 x
    have ly := l2 y
    have lx2 : (nthR (rowsA n es i) x).length ≤ 8000 := by omega
    have ly2 : (nthR (rowsA n es i) y).length ≤ 8000 := by omega
    refine go ?_
    rw [hE]
    refine go ?_
    have y2 : y < ((rowsA n es i).set x (nthR (rowsA n es i) x ++ [(y : Int)])).length := by rw [List.length_set]; exact y1
    have ly3 : (nthR ((rowsA n es i).set x (nthR (rowsA n es i) x ++ [(y : Int)])) y).length ≤ 8000 := by rw [hyx]; exact ly2
    generalize (rowsA n es i).set x (nthR (rowsA n es i) x ++ [(y : Int)]) = G at *
    refine go ?_
    rw [← hs]
    exact nxt (es.length - (i + 1)) (by omega) ⟨i + 1, by omega, rfl, rfl⟩
  obtain rfl : i = es.length := by omega
  refine go ?_
  clear hi hil
  have hb : beginF n es = ⟨srt (rowsA n es es.length) n, List.replicate n 0, List.replicate n false, n⟩ := rfl
  generalize rowsA n es es.length = G at *
  apply rp_loop (fun k σ => ∃ j : Nat, j ≤ n ∧ k = n - j ∧ σ = [(3, one (.c (rstO ⟨srt G j, List.replicate n 0, List.replicate n false, n⟩))), (70, ⟨.one, [.view 3 [0, 0]]⟩), (71, iv G.length), (72, iv j)]) n
  · exact ⟨0, by omega, by omega, rfl⟩
  rintro k σ ⟨j, hj, rfl, rfl⟩
  have l3 := srt_len G j
  by_cases hjl : j < n
  · have j1 : j < (srt G j).length := by omega
    have j2 : (nthR (srt G j) j).length ≤ 1000000 := by
      rw [srt_at G j j (by omega), if_neg (by omega)]
      have := l2 j; omega
    have hs : srt G (j + 1) = (srt G j).set j (sortI (nthR (srt G j) j)) := rfl
    refine go ?_
    rw [← hs]
    exact nxt (n - (j + 1)) (by omega) ⟨j + 1, by omega, rfl, rfl⟩
  obtain rfl : j = n := by omega
  refine go ?_
  show Q .ret _; refine fin_ret hQ rfl ?_
  rw [hb]
  rfl
theorem EBegin_ok : EnvOk Try.prog EBegin := ext_ok env0_ok okSort
noncomputable def specBegin : Spec := spec1 asGr fun g => when (RightG g.1 g.2) (one (.c (rstO (beginF g.1.toNat g.2))))
theorem okBegin : SpecOk 27 specBegin := by
  intro us r h
  obtain ⟨x, l, rfl, hl, h⟩ := spec1_eq h
  obtain ⟨h1, rfl⟩ := when_eq h
  rw [asGr_eq hl]
  have h0 : ((l.1.toNat : Nat) : Int) = l.1 := by have := h1.1; omega
  have hw := wBegin l.1.toNat l.2 (by rw [h0]; exact h1)
  rw [h0] at hw
  exact goodBy2 EBegin_ok Try.func27 rfl (Nat.le_of_ble_eq_true rfl) (by decide) hw
@[simp] theorem sBegin (n : Nat) (es : List (Int × Int)) (h : RightG n es) : specBegin [gr n es] = some ⟨.one, [.c (rstO (beginF n es))]⟩ := by
  unfold specBegin; rw [spec1_v _ _ _ _ (asGr_gr (n : Int) es)]; exact when_pos _ h
@[simp] theorem callBegin {E : Env} {σ : St Unit} {t : Nat} {l : List Operand} : effCall Try.prog E ΩU σ t 27 l = callO E 27 t (argsOf Try.prog ΩU σ [26] l) := eff_call Try.func27 Try.params27
end Go.Proofs.Ytnmocjhpbobahaa.L
