/- R13: rim.Run of a right graph. -/
import Derived.Test.YtnmocjhpbobahaaQ27
import Derived.Test.YtnmocjhpbobahaaQ32
import Derived.Test.YtnmocjhpbobahaaQ19
import Derived.Test.YtnmocjhpbobahaaQ33
import Derived.Test.YtnmocjhpbobahaaQ34
import Derived.Test.YtnmocjhpbobahaaQ31
import Derived.Test.YtnmocjhpbobahaaQ35
set_option linter.unusedVariables false
set_option linter.unusedSimpArgs false
set_option linter.unnecessarySimpa false
namespace Go.Proofs.Ytnmocjhpbobahaa.L
open Go Go.RowKit
set_option maxRecDepth 100000
set_option maxHeartbeats 4000000
theorem leastF_cut {n : Nat} {r : Rst} (hr : RstI n r) {e : Cu} (h : leastF r = some e) : ∃ (a b c : Nat) (p q s : Int), e = ((a : Int), (b : Int), (c : Int), p, q, s) ∧ CutI n r a b c p q s ∧ cutF r a b c = (e, true) := by
  unfold leastF at h
  obtain ⟨a, ha, h⟩ := List.exists_of_findSome?_eq_some h
  rw [List.mem_range, hr.near] at ha
  unfold leastA at h
  obtain ⟨b', hb, h⟩ := List.exists_of_findSome?_eq_some h
  have hbr := hr.rng a ha b' hb
  obtain ⟨b, rfl⟩ : ∃ b : Nat, b' = (b : Int) := ⟨b'.toNat, by omega⟩
  unfold leastB at h
  split at h
  · cases h
  · next hba =>
    obtain ⟨c', hc, h⟩ := List.exists_of_findSome?_eq_some h
    rw [Int.toNat_natCast] at hc h
    have hcr := hr.rng b (by omega) c' hc
    obtain ⟨c, rfl⟩ : ∃ c : Nat, c' = (c : Int) := ⟨c'.toNat, by omega⟩
    unfold leastC at h
    split at h
    · next hh =>
      rw [Int.toNat_natCast] at h
      split at h
      · next hk =>
        obtain rfl := Option.some.inj h
        have hne : a ≠ b := by rintro rfl; exact hr.irr a ha hb
        obtain ⟨p, q, s, he, k⟩ := cutI hr.toRstS (show a < b by omega) (show b < c by omega) (by omega : c < n) (e := (cutF r a b c).1) (Prod.ext rfl hk)
        exact ⟨a, b, c, p, q, s, he, k, Prod.ext rfl hk⟩
      · cases h
    · cases h
def isFb (r : Rst) : Bool := decide (r.count = 4 ∧ edgE r r.near.length = 12)
def fitFb (r : Rst) : Bool := decide (cntM r 2 r.near.length ≤ 1 ∧ cntM r 1 r.near.length ≤ 3)
/-- The run's rounds. -/
def runF : Nat → Rst → List Cu → Int × List Cu
  | 0, _, cs => (4, cs)
  | k + 1, r, cs => if isFb r = true then (if fitFb r = true then (1, cs) else (6, cs)) else match leastF r with
    | none => (4, cs)
    | some e => if (doF r e).2 = true then runF k (doF r e).1 (cs ++ [e]) else (5, cs ++ [e])
@[simp] theorem sFourB {r : Rst} (h : FourOk r) : specFour [⟨.one, [.c (rstF r)]⟩] = some (twoB (isFb r) (fitFb r)) := sFour h
noncomputable abbrev ERun : Env := ext (ext (ext (ext (ext (ext env0 21 spec32) 26 specLow) 27 specBegin) 28 specFour) 29 specLeast) 30 specDo
attribute [-simp] sFour
attribute [local simp] lendO
/-- What rim.Run answers of a right graph. -/
def runG (n : Nat) (es : List (Int × Int)) : Int × List Cu :=
  if n < 4 then (2, []) else if 0 < (n : Int) ∧ minL (degF n es es.length) < 3 then (3, []) else runF (n + 1) (beginF n es) []
theorem wRun (n : Nat) (es : List (Int × Int)) (hR : RightG n es) : ∃ c, Try.f13.body = some c ∧ RP (regOf Try.prog ERun 58 u13) c (argsSt 0 [gr n es]) (endsAs Try.prog Try.f13 (tro (runG n es).1 (runG n es).2)) := by
  refine ⟨_, rfl, ?_⟩
  generalize hQ : endsAs Try.prog Try.f13 (tro (runG n es).1 (runG n es).2) = Q
  simp only [argsSt]
  have hn := hR.1
  by_cases h4 : (n : Int) < 4
  · rw [show runG n es = (2, []) by unfold runG; rw [if_pos (by omega)]] at hQ
    refine go ?_
    show Q .ret _; refine fin_ret hQ rfl ?_
    rfl
  cases hlow : decide (0 < (n : Int) ∧ minL (degF n es es.length) < 3) with
  | true =>
    rw [show runG n es = (3, []) by unfold runG; rw [if_neg (by omega), if_pos (of_decide_eq_true hlow)]] at hQ
    have h0 : 0 < (n : Int) := by omega
    have h3 := (of_decide_eq_true hlow).2
    refine go ?_
    show Q .ret _; refine fin_ret hQ rfl ?_
    rfl
  | false =>
  have h0 : 0 < (n : Int) := by omega
  have h3 : ¬ minL (degF n es es.length) < 3 := fun h => (of_decide_eq_false hlow) ⟨h0, h⟩
  rw [show runG n es = runF (n + 1) (beginF n es) [] by unfold runG; rw [if_neg (by omega), if_neg (of_decide_eq_false hlow)]] at hQ
  refine go ?_
  obtain ⟨res, hres⟩ : ∃ res, res = runF (n + 1) (beginF n es) [] := ⟨_, rfl⟩
  rw [← hres] at hQ
  apply rp_loop (fun k σ => ∃ (r : Rst) (cs : List Cu), res = runF k r cs ∧ RstI n r ∧ r.count < k ∧ cs.length + r.count ≤ n ∧ (σ = [(2, trobx 0 []), (3, ⟨.one, [.c (rstO r)]⟩), (4, ⟨.one, [.c (.sl true 6 () (CL cs))]⟩)] ∨ σ = [(2, trobx 0 []), (3, ⟨.one, [.c (rstO r)]⟩), (4, ⟨.one, [.c (.sl true 6 () (CL cs))]⟩), (55, bv (!true))])) (n + 1)
  · exact ⟨beginF n es, [], hres, begin_ok hR, by have := (begin_ok hR).cnt_le; omega, by have := (begin_ok hR).cnt_le; simp only [List.length_nil]; omega, .inl rfl⟩
  rintro k σ ⟨r, cs, hrun, hr, hck, hcl, hσ⟩
  have hcn := hr.cnt_le
  obtain ⟨k, rfl⟩ : ∃ k' : Nat, k = k' + 1 := ⟨k - 1, by omega⟩
  rw [runF] at hrun
  have fo : FourOk r := ⟨by rw [hr.near]; exact hr.toRstOk, by rw [hr.near]; omega, by rw [hr.near]; exact hr.mks⟩
  have lo : LeastOk r := ⟨by rw [hr.near]; exact hr.toRstOk, by rw [hr.near]; omega⟩
  have csl : cs.length ≤ 1000 := by omega
  clear hres
  rcases hσ with rfl | rfl
  · cases hb : isFb r with
    | true =>
      rw [hb, if_pos rfl] at hrun
      cases hf : fitFb r with
      | true =>
        rw [hf, if_pos rfl] at hrun
        rw [hrun] at hQ
        refine go ?_
        simp only [hb, hf]
        refine go ?_
        show Q .ret _; refine fin_ret hQ rfl ?_
        rfl
      | false =>
        rw [hf, if_neg Bool.noConfusion] at hrun
        rw [hrun] at hQ
        refine go ?_
        simp only [hb, hf]
        refine go ?_
        show Q .ret _; refine fin_ret hQ rfl ?_
        rfl
    | false =>
      rw [hb, if_neg Bool.noConfusion] at hrun
      refine go ?_
      simp only [hb]
      refine go ?_
      cases hle : leastF r with
      | none =>
        rw [hle] at hrun
        rw [hrun] at hQ
        simp only [hle, cuO]
        refine go ?_
        show Q .ret _; refine fin_ret hQ rfl ?_
        rfl
      | some e =>
        rw [hle] at hrun
        obtain ⟨a, b, c, p, q, s, rfl, k2, hcut⟩ := leastF_cut hr hle
        have dok : DoOk r ((a : Int), (b : Int), (c : Int), p, q, s) := ⟨n, a, b, c, p, q, s, hr, by omega, rfl, k2⟩
        have hds := do_step hr k2
        simp only at hrun
        simp only [hle, cuO]
        refine go ?_
        cases hd : (doF r ((a : Int), (b : Int), (c : Int), p, q, s)).2 with
        | true =>
          rw [hd, if_pos rfl] at hrun
          have hd2 := hds.2 hd
          refine go ?_
          rw [inBlock_normal]
          exact nxt k (by omega) ⟨_, _, hrun, hds.1, by omega, by rw [List.length_append]; simp only [List.length_cons, List.length_nil]; omega, .inr rfl⟩
        | false =>
          rw [hd, if_neg Bool.noConfusion] at hrun
          rw [hrun] at hQ
          refine go ?_
          show Q .ret _; refine fin_ret hQ rfl ?_
          rfl
  · cases hb : isFb r with
    | true =>
      rw [hb, if_pos rfl] at hrun
      cases hf : fitFb r with
      | true =>
        rw [hf, if_pos rfl] at hrun
        rw [hrun] at hQ
        refine go ?_
        simp only [hb, hf]
        refine go ?_
        show Q .ret _; refine fin_ret hQ rfl ?_
        rfl
      | false =>
        rw [hf, if_neg Bool.noConfusion] at hrun
        rw [hrun] at hQ
        refine go ?_
        simp only [hb, hf]
        refine go ?_
        show Q .ret _; refine fin_ret hQ rfl ?_
        rfl
    | false =>
      rw [hb, if_neg Bool.noConfusion] at hrun
      refine go ?_
      simp only [hb]
      refine go ?_
      cases hle : leastF r with
      | none =>
        rw [hle] at hrun
        rw [hrun] at hQ
        simp only [hle, cuO]
        refine go ?_
        show Q .ret _; refine fin_ret hQ rfl ?_
        rfl
      | some e =>
        rw [hle] at hrun
        obtain ⟨a, b, c, p, q, s, rfl, k2, hcut⟩ := leastF_cut hr hle
        have dok : DoOk r ((a : Int), (b : Int), (c : Int), p, q, s) := ⟨n, a, b, c, p, q, s, hr, by omega, rfl, k2⟩
        have hds := do_step hr k2
        simp only at hrun
        simp only [hle, cuO]
        refine go ?_
        cases hd : (doF r ((a : Int), (b : Int), (c : Int), p, q, s)).2 with
        | true =>
          rw [hd, if_pos rfl] at hrun
          have hd2 := hds.2 hd
          refine go ?_
          rw [inBlock_normal]
          exact nxt k (by omega) ⟨_, _, hrun, hds.1, by omega, by rw [List.length_append]; simp only [List.length_cons, List.length_nil]; omega, .inr rfl⟩
        | false =>
          rw [hd, if_neg Bool.noConfusion] at hrun
          rw [hrun] at hQ
          refine go ?_
          show Q .ret _; refine fin_ret hQ rfl ?_
          rfl
theorem ERun_ok : EnvOk Try.prog ERun := ext_ok (ext_ok (ext_ok (ext_ok (ext_ok (ext_ok env0_ok ok32) okLow) okBegin) okFour) okLeast) okDo
noncomputable def specRunR : Spec := spec1 asGr fun g => when (RightG g.1 g.2) (tro (runG g.1.toNat g.2).1 (runG g.1.toNat g.2).2)
theorem okRunR : SpecOk 13 specRunR := by
  intro us r h
  obtain ⟨x, l, rfl, hl, h⟩ := spec1_eq h
  obtain ⟨h1, rfl⟩ := when_eq h
  rw [asGr_eq hl]
  have h0 : ((l.1.toNat : Nat) : Int) = l.1 := by have := h1.1; omega
  have hw := wRun l.1.toNat l.2 (by rw [h0]; exact h1)
  rw [h0] at hw
  exact goodBy2 ERun_ok Try.func13 rfl (Nat.le_of_ble_eq_true rfl) (by decide) hw
@[simp] theorem sRunR (n : Nat) (es : List (Int × Int)) (h : RightG n es) : specRunR [gr n es] = some (tro (runG n es).1 (runG n es).2) := by
  unfold specRunR; rw [spec1_v _ _ _ _ (asGr_gr (n : Int) es)]; exact when_pos _ h
end Go.Proofs.Ytnmocjhpbobahaa.L
