/- HF: runs and rims: no trace refutes a graph whose run ends well; a run's own trace refutes just if it does not. -/
import Derived.Test.YtnmocjhpbobahaaY33
import Derived.Test.YtnmocjhpbobahaaY44
import Derived.Test.YtnmocjhpbobahaaY45
set_option linter.unusedVariables false
set_option linter.unusedSimpArgs false
set_option linter.unnecessarySimpa false
namespace Go.Proofs.Ytnmocjhpbobahaa.L
open Go Go.RowKit
set_option maxRecDepth 100000
theorem run_rim {n : Nat} : ∀ (k : Nat) {r : Rst} {cs out : List Cu}, RstD n r → runF k r cs = (1, out) → RimR n r
  | 0, r, cs, out, _, h => by rw [runF, Prod.mk.injEq] at h; exact absurd h.1 (by decide)
  | k + 1, r, cs, out, hr, h => by
    rw [runF] at h
    split at h
    · next hf =>
      split at h
      · next hg => exact fit_rim hr (by unfold isFb at hf; exact (of_decide_eq_true hf).1) hg
      · rw [Prod.mk.injEq] at h; exact absurd h.1 (by decide)
    · split at h
      · rw [Prod.mk.injEq] at h; exact absurd h.1 (by decide)
      · next f hle =>
        obtain ⟨a, b, c, p, q, s, rfl, ki, hcut⟩ := leastF_cut hr.toRstI hle
        split at h
        · next hd =>
          obtain ⟨g1, g2, g3, g4⟩ := do_keeps hr ki hd
          exact do_B hr ki hd (run_rim k g1 h)
        · rw [Prod.mk.injEq] at h; exact absurd h.1 (by decide)
theorem repl_rim {n : Nat} : ∀ (l : List Cu) {r : Rst}, RstD n r → RimR n r → RstD n (replF n r l).1 ∧ RimR n (replF n r l).1
  | [], r, h, k => ⟨h, k⟩
  | e :: l, r, h, k => by
    rw [replF]
    cases hs : stepF n r e with
    | none => exact ⟨h, k⟩
    | some r' =>
      obtain ⟨_, a, b, c, p, q, s, rfl, ki, hd⟩ := stepF_ok h.toRstI hs
      have hd2 : (doF r ((a : Int), (b : Int), (c : Int), p, q, s)).2 = true := by rw [hd]
      have hd1 : (doF r ((a : Int), (b : Int), (c : Int), p, q, s)).1 = r' := by rw [hd]
      have g := (do_keeps h ki hd2).1
      have g' := (do_F h ki k).2
      rw [hd1] at g g'
      exact repl_rim l g g'
theorem rim_clash {n : Nat} {r : Rst} (h : RstD n r) (k : RimR n r) (x : Cu) : lastB n r x = false := by
  unfold lastB
  cases e1 : decide (okT n x) with
  | false => rfl
  | true =>
    cases e2 : decide (cutF r x.1.toNat x.2.1.toNat x.2.2.1.toNat = (x, true)) with
    | false => rfl
    | true =>
      have h1 := of_decide_eq_true e1
      have h2 := of_decide_eq_true e2
      obtain ⟨A, B, C, P, Q, S⟩ := x
      unfold okT at h1
      simp only at h1 h2
      obtain ⟨a, rfl⟩ : ∃ a : Nat, A = (a : Int) := ⟨A.toNat, by omega⟩
      obtain ⟨b, rfl⟩ : ∃ b : Nat, B = (b : Int) := ⟨B.toNat, by omega⟩
      obtain ⟨c, rfl⟩ : ∃ c : Nat, C = (c : Int) := ⟨C.toNat, by omega⟩
      simp only [Int.toNat_natCast] at h2
      obtain ⟨p, q, s, he, ki⟩ := cutI h.toRstI.toRstS (by omega) (by omega) (by omega : c < n) h2
      rw [he, (do_F h ki k).1]
      rfl
theorem rim_stuck {n : Nat} {r : Rst} (h : RstD n r) (k : RimR n r) : stuckB r = false := by
  unfold stuckB
  have h4 := rim_four h.toRstI k
  rcases (by omega : r.count = 4 ∨ 4 < r.count) with e | e
  · rw [four_is h e]; rfl
  · rw [decide_eq_false (rim_least h.toRstI e k), Bool.and_false]
theorem rim_unfit {n : Nat} {r : Rst} (h : RstD n r) (k : RimR n r) : unfitB r = false := by
  unfold unfitB
  cases hf : isFb r with
  | false => rfl
  | true =>
    have e : r.count = 4 := by unfold isFb at hf; exact (of_decide_eq_true hf).1
    rw [rim_fit h e k]; rfl
theorem good_begin {n : Nat} {es : List (Int × Int)} (h : RightG n es) (hg : (runG n es).1 = 1) : ¬ n < 4 ∧ ¬ (0 < (n : Int) ∧ minL (degF n es es.length) < 3) ∧ RstD n (beginF n es) ∧ RimR n (beginF n es) := by
  by_cases h4 : n < 4
  · have : runG n es = (2, []) := by unfold runG; rw [if_pos h4]
    rw [this] at hg; exact absurd hg (by decide)
  by_cases h3 : 0 < (n : Int) ∧ minL (degF n es es.length) < 3
  · have : runG n es = (3, []) := by unfold runG; rw [if_neg h4, if_pos h3]
    rw [this] at hg; exact absurd hg (by decide)
  have e : runG n es = runF (n + 1) (beginF n es) [] := by unfold runG; rw [if_neg h4, if_neg h3]
  have hk := begin_keeps h h3
  exact ⟨h4, h3, hk, run_rim (n + 1) (cs := []) (out := (runG n es).2) hk (by rw [← e]; exact Prod.ext hg rfl)⟩
/-- No trace refutes a graph whose run ends well. -/
theorem good_none {n : Nat} {es : List (Int × Int)} (h : RightG n es) (hg : (runG n es).1 = 1) (e : Int) (l : List Cu) : refuB n es e l = false := by
  obtain ⟨h4, h3, hk, hr⟩ := good_begin h hg
  have hl := fun l => repl_rim l hk hr
  by_cases e2 : e = 2
  · subst e2; rw [refuB_2]; exact decide_eq_false (fun q => h4 (by omega))
  by_cases e3 : e = 3
  · subst e3; rw [refuB_3, decide_eq_false h3, Bool.and_false]
  by_cases e5 : e = 5
  · subst e5; rw [refuB_5]; unfold clashB
    rw [rim_clash (hl _).1 (hl _).2, Bool.and_false, Bool.and_false]
  by_cases e4 : e = 4
  · subst e4; rw [refuB_4, rim_stuck (hl _).1 (hl _).2, Bool.and_false]
  by_cases e6 : e = 6
  · subst e6; rw [refuB_6, rim_unfit (hl _).1 (hl _).2, Bool.and_false]
  exact refuB_n e2 e3 e5 e4 e6
/-- How a run ends, and what its trace shows. -/
theorem run_shows {n : Nat} : ∀ (k : Nat) {r : Rst} {cs out : List Cu} {e : Int}, RstD n r → 4 ≤ r.count → r.count < k → runF k r cs = (e, out) →
    ∃ tail, out = cs ++ tail ∧ (e = 1 ∨ (e = 4 ∧ (replF n r tail).2 = tail.length ∧ stuckB (replF n r tail).1 = true) ∨ (e = 6 ∧ (replF n r tail).2 = tail.length ∧ unfitB (replF n r tail).1 = true) ∨ (e = 5 ∧ ∃ m x, tail = m ++ [x] ∧ (replF n r m).2 = m.length ∧ lastB n (replF n r m).1 x = true))
  | 0, r, cs, out, e, _, h4, hk, _ => by omega
  | k + 1, r, cs, out, e, hr, h4, hk, h => by
    rw [runF] at h
    split at h
    · next hf =>
      split at h
      · rw [Prod.mk.injEq] at h
        exact ⟨[], by rw [List.append_nil]; exact h.2.symm, .inl h.1.symm⟩
      · next hg =>
        rw [Prod.mk.injEq] at h
        refine ⟨[], by rw [List.append_nil]; exact h.2.symm, .inr (.inr (.inl ⟨h.1.symm, rfl, ?_⟩))⟩
        show unfitB r = true
        unfold unfitB
        rw [hf]
        cases q : fitFb r with
        | false => rfl
        | true => exact (hg q).elim
    · next hf =>
      split at h
      · next hle =>
        rw [Prod.mk.injEq] at h
        refine ⟨[], by rw [List.append_nil]; exact h.2.symm, .inr (.inl ⟨h.1.symm, rfl, ?_⟩)⟩
        show stuckB r = true
        unfold stuckB
        rw [hle, decide_eq_true rfl]
        cases q : isFb r with
        | false => rfl
        | true => exact (hf q).elim
      · next f hle =>
        obtain ⟨a, b, c, p, q, s, rfl, ki, hcut⟩ := leastF_cut hr.toRstI hle
        split at h
        · next hd =>
          obtain ⟨g1, g2, g3, g4⟩ := do_keeps hr ki hd
          have hs := stepF_cut ki hcut hd
          obtain ⟨tail, e1, e2⟩ := run_shows k g1 g2 (by omega) h
          have hre : ∀ l, replF n r (((a : Int), (b : Int), (c : Int), p, q, s) :: l) = ((replF n (doF r ((a : Int), (b : Int), (c : Int), p, q, s)).1 l).1, (replF n (doF r ((a : Int), (b : Int), (c : Int), p, q, s)).1 l).2 + 1) := fun l => by rw [replF, hs]
          refine ⟨((a : Int), (b : Int), (c : Int), p, q, s) :: tail, by rw [e1, List.append_assoc]; rfl, ?_⟩
          rw [hre, List.length_cons]
          rcases e2 with e2 | ⟨e2, e3, e4⟩ | ⟨e2, e3, e4⟩ | ⟨e2, m, x, rfl, e3, e4⟩
          · exact .inl e2
          · exact .inr (.inl ⟨e2, by simp only; omega, e4⟩)
          · exact .inr (.inr (.inl ⟨e2, by simp only; omega, e4⟩))
          · refine .inr (.inr (.inr ⟨e2, _ :: m, x, rfl, ?_, ?_⟩))
            · rw [hre, List.length_cons]; simp only; omega
            · rw [hre]; exact e4
        · next hd =>
          rw [Prod.mk.injEq] at h
          refine ⟨[((a : Int), (b : Int), (c : Int), p, q, s)], h.2.symm, .inr (.inr (.inr ⟨h.1.symm, [], _, rfl, rfl, ?_⟩))⟩
          show lastB n r _ = true
          unfold lastB
          have o1 : okT n ((a : Int), (b : Int), (c : Int), p, q, s) := by
            have := ki.ab; have := ki.bc; have := ki.cn
            unfold okT; simp only; omega
          rw [decide_eq_true o1]
          simp only [Int.toNat_natCast]
          rw [decide_eq_true hcut]
          cases q : (doF r ((a : Int), (b : Int), (c : Int), p, q, s)).2 with
          | false => rfl
          | true => exact (hd q).elim
/-- A run's own trace refutes just if it does not end well. -/
theorem own_trace {n : Nat} {es : List (Int × Int)} (h : RightG n es) : refuB n es (runG n es).1 (runG n es).2 = decide ((runG n es).1 ≠ 1) := by
  by_cases h4 : n < 4
  · have : runG n es = (2, []) := by unfold runG; rw [if_pos h4]
    rw [this, refuB_2, decide_eq_true ⟨rfl, by omega⟩]; rfl
  by_cases h3 : 0 < (n : Int) ∧ minL (degF n es es.length) < 3
  · have : runG n es = (3, []) := by unfold runG; rw [if_neg h4, if_pos h3]
    rw [this, refuB_3, decide_eq_true h3]; rfl
  have e : runG n es = runF (n + 1) (beginF n es) [] := by unfold runG; rw [if_neg h4, if_neg h3]
  have hk := begin_keeps h h3
  have hcn := hk.toRstI.cnt_le
  obtain ⟨tail, e1, e2⟩ := run_shows (n + 1) (cs := []) hk (by show (4 : Int) ≤ (n : Int); omega) (by push_cast; omega) (show runF (n + 1) (beginF n es) [] = ((runG n es).1, (runG n es).2) by rw [e])
  rw [List.nil_append] at e1
  rw [e1]
  rcases e2 with e2 | ⟨e2, e3, e4⟩ | ⟨e2, e3, e4⟩ | ⟨e2, m, x, rfl, e3, e4⟩
  · rw [e2, refuB_n (by decide) (by decide) (by decide) (by decide) (by decide)]; rfl
  · rw [e2, refuB_4, decide_eq_true e3, e4]; rfl
  · rw [e2, refuB_6, decide_eq_true e3, e4]; rfl
  · rw [e2, refuB_5, clashB_last, decide_eq_true e3, e4]; rfl
end Go.Proofs.Ytnmocjhpbobahaa.L
