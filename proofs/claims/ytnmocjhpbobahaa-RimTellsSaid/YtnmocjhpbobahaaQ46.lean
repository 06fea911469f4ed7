/- R13: rim.Run of a right graph. UF: four left, each a neighbour of each: as the document says. -/
import Derived.Test.YtnmocjhpbobahaaQ23
import Derived.Test.YtnmocjhpbobahaaQ24
import Derived.Test.YtnmocjhpbobahaaQ16
import Derived.Test.YtnmocjhpbobahaaQ40
import Derived.Test.YtnmocjhpbobahaaQ44
import Derived.Test.YtnmocjhpbobahaaQ37
import Derived.Test.YtnmocjhpbobahaaQ45
import Derived.Test.YtnmocjhpbobahaaQ21
set_option linter.unusedVariables false
set_option linter.unusedSimpArgs false
set_option linter.unnecessarySimpa false
namespace Go.Proofs.Ytnmocjhpbobahaa.L
open Go Go.RowKit
set_option maxRecDepth 100000
set_option maxHeartbeats 4000000
theorem leastF_cut {n : Nat} {r : Rst} (hr : RstI n r) {e : Cu} (h : leastF r = some e) : ∃ (a b c : Nat) (p q s : Int), e = ((a : Int), (b : Int), (c : Int), p, q, s) ∧ CutI n r a b c p q s ∧ cutF r a b c = (e, true) := by
  unfold leastF at h
  obtain ⟨a, ha, h⟩ := List.exists_of_findSome?_eq_some h
  rw [List.mem_range, hr.near] at ha
  unfold leastA at h
  obtain ⟨b', hb, h⟩ := List.exists_of_findSome?_eq_some h
  have hbr := hr.rng a ha b' hb
  obtain ⟨b, rfl⟩ : ∃ b : Nat, b' = (b : Int) := ⟨b'.toNat, by omega⟩
  unfold leastB at h
  split at h
  · cases h
  · next hba =>
    obtain ⟨c', hc, h⟩ := List.exists_of_findSome?_eq_some h
    rw [Int.toNat_natCast] at hc h
    have hcr := hr.rng b (by omega) c' hc
    obtain ⟨c, rfl⟩ : ∃ c : Nat, c' = (c : Int) := ⟨c'.toNat, by omega⟩
    unfold leastC at h
    split at h
    · next hh =>
      rw [Int.toNat_natCast] at h
      split at h
      · next hk =>
        obtain rfl := Option.some.inj h
        have hne : a ≠ b := by rintro rfl; exact hr.irr a ha hb
        obtain ⟨p, q, s, he, k⟩ := cutI hr.toRstS (show a < b by omega) (show b < c by omega) (by omega : c < n) (e := (cutF r a b c).1) (Prod.ext rfl hk)
        exact ⟨a, b, c, p, q, s, he, k, Prod.ext rfl hk⟩
      · cases h
    · cases h
def isFb (r : Rst) : Bool := decide (r.count = 4 ∧ edgE r r.near.length = 12)
def fitFb (r : Rst) : Bool := decide (cntM r 2 r.near.length ≤ 1 ∧ cntM r 1 r.near.length ≤ 3)
/-- The run's rounds. -/
def runF : Nat → Rst → List Cu → Int × List Cu
  | 0, _, cs => (4, cs)
  | k + 1, r, cs => if isFb r = true then (if fitFb r = true then (1, cs) else (6, cs)) else match leastF r with
    | none => (4, cs)
    | some e => if (doF r e).2 = true then runF k (doF r e).1 (cs ++ [e]) else (5, cs ++ [e])
@[simp] theorem sFourB {r : Rst} (h : FourOk r) : specFour [⟨.one, [.c (rstF r)]⟩] = some (twoB (isFb r) (fitFb r)) := sFour h
noncomputable abbrev ERun : Env := ext (ext (ext (ext (ext (ext env0 21 spec32) 26 specLow) 27 specBegin) 28 specFour) 29 specLeast) 30 specDo
attribute [-simp] sFour
attribute [local simp] lendO
/-- What rim.Run answers of a right graph. -/
def runG (n : Nat) (es : List (Int × Int)) : Int × List Cu :=
  if n < 4 then (2, []) else if 0 < (n : Int) ∧ minL (degF n es es.length) < 3 then (3, []) else runF (n + 1) (beginF n es) []
theorem wRun (n : Nat) (es : List (Int × Int)) (hR : RightG n es) : ∃ c, Try.f13.body = some c ∧ RP (regOf Try.prog ERun 58 u13) c (argsSt 0 [gr n es]) (endsAs Try.prog Try.f13 (tro (runG n es).1 (runG n es).2)) := by
  refine ⟨_, rfl, ?_⟩
  generalize hQ : endsAs Try.prog Try.f13 (tro (runG n es).1 (runG n es).2) = Q
  simp only [argsSt]
  have hn := hR.1
  by_cases h4 : (n : Int) < 4
  · rw [show runG n es = (2, []) by unfold runG; rw [if_pos (by omega)]] at hQ
    refine go ?_
    show Q .ret _; refine fin_ret hQ rfl ?_
    rfl
  cases hlow : decide (0 < (n : Int) ∧ minL (degF n es es.length) < 3) with
  | true =>
    rw [show runG n es = (3, []) by unfold runG; rw [if_neg (by omega), if_pos (of_decide_eq_true hlow)]] at hQ
    have h0 : 0 < (n : Int) := by omega
    have h3 := (of_decide_eq_true hlow).2
    refine go ?_
    show Q .ret _; refine fin_ret hQ rfl ?_
    rfl
  | false =>
  have h0 : 0 < (n : Int) := by omega
  have h3 : ¬ minL (degF n es es.length) < 3 := fun h => (of_decide_eq_false hlow) ⟨h0, h⟩
  rw [show runG n es = runF (n + 1) (beginF n es) [] by unfold runG; rw [if_neg (by omega), if_neg (of_decide_eq_false hlow)]] at hQ
  refine go ?_
  obtain ⟨res, hres⟩ : ∃ res, res = runF (n + 1) (beginF n es) [] := ⟨_, rfl⟩
  rw [← hres] at hQ
  apply rp_loop (fun k σ => ∃ (r : Rst) (cs : List Cu), res = runF k r cs ∧ RstI n r ∧ r.count < k ∧ cs.length + r.count ≤ n ∧ (σ = [(2, trobx 0 []), (3, ⟨.one, [.c (rstO r)]⟩), (4, ⟨.one, [.c (.sl true 6 () (CL cs))]⟩)] ∨ σ = [(2, trobx 0 []), (3, ⟨.one, [.c (rstO r)]⟩), (4, ⟨.one, [.c (.sl true 6 () (CL cs))]⟩), (55, bv (!true))])) (n + 1)
  · exact ⟨beginF n es, [], hres, begin_ok hR, by have := (begin_ok hR).cnt_le; omega, by have := (begin_ok hR).cnt_le; simp only [List.length_nil]; omega, .inl rfl⟩
  rintro k σ ⟨r, cs, hrun, hr, hck, hcl, hσ⟩
  have hcn := hr.cnt_le
  obtain ⟨k, rfl⟩ : ∃ k' : Nat, k = k' + 1 := ⟨k - 1, by omega⟩
  rw [runF] at hrun
  have fo : FourOk r := ⟨by rw [hr.near]; exact hr.toRstOk, by rw [hr.near]; omega, by rw [hr.near]; exact hr.mks⟩
  have lo : LeastOk r := ⟨by rw [hr.near]; exact hr.toRstOk, by rw [hr.near]; omega⟩
  have csl : cs.length ≤ 1000 := by omega
  clear hres
  rcases hσ with rfl | rfl
  · cases hb : isFb r with
    | true =>
      rw [hb, if_pos rfl] at hrun
      cases hf : fitFb r with
      | true =>
        rw [hf, if_pos rfl] at hrun
        rw [hrun] at hQ
        refine go ?_
        simp only [hb, hf]
        refine go ?_
        show Q .ret _; refine fin_ret hQ rfl ?_
        rfl
      | false =>
        rw [hf, if_neg Bool.noConfusion] at hrun
        rw [hrun] at hQ
        refine go ?_
        simp only [hb, hf]
        refine go ?_
        show Q .ret _; refine fin_ret hQ rfl ?_
        rfl
    | false =>
      rw [hb, if_neg Bool.noConfusion] at hrun
      refine go ?_
      simp only [hb]
      refine go ?_
      cases hle : leastF r with
      | none =>
        rw [hle] at hrun
        rw [hrun] at hQ
        simp only [hle, cuO]
        refine go ?_
        show Q .ret _; refine fin_ret hQ rfl ?_
        rfl
      | some e =>
        rw [hle] at hrun
        obtain ⟨a, b, c, p, q, s, rfl, k2, hcut⟩ := leastF_cut hr hle
        have dok : DoOk r ((a : Int), (b : Int), (c : Int), p, q, s) := ⟨n, a, b, c, p, q, s, hr, by omega, rfl, k2⟩
        have hds := do_step hr k2
        simp only at hrun
        simp only [hle, cuO]
        refine go ?_
        cases hd : (doF r ((a : Int), (b : Int), (c : Int), p, q, s)).2 with
        | true =>
          rw [hd, if_pos rfl] at hrun
          have hd2 := hds.2 hd
          refine go ?_
          rw [inBlock_normal]
          exact nxt k (by omega) ⟨_, _, hrun, hds.1, by omega, by rw [List.length_append]; simp only [List.length_cons, List.length_nil]; omega, .inr rfl⟩
        | false =>
          rw [hd, if_neg Bool.noConfusion] at hrun
          rw [hrun] at hQ
          refine go ?_
          show Q .ret _; refine fin_ret hQ rfl ?_
          rfl
  · cases hb : isFb r with
    | true =>
      rw [hb, if_pos rfl] at hrun
      cases hf : fitFb r with
      | true =>
        rw [hf, if_pos rfl] at hrun
        rw [hrun] at hQ
        refine go ?_
        simp only [hb, hf]
        refine go ?_
        show Q .ret _; refine fin_ret hQ rfl ?_
        rfl
      | false =>
        rw [hf, if_neg Bool.noConfusion] at hrun
        rw [hrun] at hQ
        refine go ?_
        simp only [hb, hf]
        refine go ?_
        show Q .ret _; refine fin_ret hQ rfl ?_
        rfl
    | false =>
      rw [hb, if_neg Bool.noConfusion] at hrun
      refine go ?_
      simp only [hb]
      refine go ?_
      cases hle : leastF r with
      | none =>
        rw [hle] at hrun
        rw [hrun] at hQ
        simp only [hle, cuO]
        refine go ?_
        show Q .ret _; refine fin_ret hQ rfl ?_
        rfl
      | some e =>
        rw [hle] at hrun
        obtain ⟨a, b, c, p, q, s, rfl, k2, hcut⟩ := leastF_cut hr hle
        have dok : DoOk r ((a : Int), (b : Int), (c : Int), p, q, s) := ⟨n, a, b, c, p, q, s, hr, by omega, rfl, k2⟩
        have hds := do_step hr k2
        simp only at hrun
        simp only [hle, cuO]
        refine go ?_
        cases hd : (doF r ((a : Int), (b : Int), (c : Int), p, q, s)).2 with
        | true =>
          rw [hd, if_pos rfl] at hrun
          have hd2 := hds.2 hd
          refine go ?_
          rw [inBlock_normal]
          exact nxt k (by omega) ⟨_, _, hrun, hds.1, by omega, by rw [List.length_append]; simp only [List.length_cons, List.length_nil]; omega, .inr rfl⟩
        | false =>
          rw [hd, if_neg Bool.noConfusion] at hrun
          rw [hrun] at hQ
          refine go ?_
          show Q .ret _; refine fin_ret hQ rfl ?_
          rfl
theorem ERun_ok : EnvOk Try.prog ERun := ext_ok (ext_ok (ext_ok (ext_ok (ext_ok (ext_ok env0_ok ok32) okLow) okBegin) okFour) okLeast) okDo
noncomputable def specRunR : Spec := spec1 asGr fun g => when (RightG g.1 g.2) (tro (runG g.1.toNat g.2).1 (runG g.1.toNat g.2).2)
theorem okRunR : SpecOk 13 specRunR := by
  intro us r h
  obtain ⟨x, l, rfl, hl, h⟩ := spec1_eq h
  obtain ⟨h1, rfl⟩ := when_eq h
  rw [asGr_eq hl]
  have h0 : ((l.1.toNat : Nat) : Int) = l.1 := by have := h1.1; omega
  have hw := wRun l.1.toNat l.2 (by rw [h0]; exact h1)
  rw [h0] at hw
  exact goodBy2 ERun_ok Try.func13 rfl (Nat.le_of_ble_eq_true rfl) (by decide) hw
@[simp] theorem sRunR (n : Nat) (es : List (Int × Int)) (h : RightG n es) : specRunR [gr n es] = some (tro (runG n es).1 (runG n es).2) := by
  unfold specRunR; rw [spec1_v _ _ _ _ (asGr_gr (n : Int) es)]; exact when_pos _ h
end Go.Proofs.Ytnmocjhpbobahaa.L
namespace Go.Proofs.Ytnmocjhpbobahaa.L
open Go Go.RowKit
set_option maxRecDepth 100000
theorem deg_le_left {n : Nat} {r : Rst} (h : RstI n r) {v : Nat} (hv : v < n) (hg : nthB r.gone v = false) : deg r v + 1 ≤ leftN r.gone n := by
  have hrng := h.rng v hv
  have hnd := h.toRstOk.nodup hv
  have hl := six_left (g := r.gone) (n := n) h.toRstOk.gone (l := v :: (nthR r.near v).map Int.toNat) (by
    rw [List.nodup_cons]
    constructor
    · intro hm
      obtain ⟨x, hx, e⟩ := List.mem_map.1 hm
      have hr := hrng x hx
      have : x = (v : Int) := by omega
      rw [this] at hx
      exact h.irr v hv hx
    · unfold List.Nodup
      rw [List.pairwise_map]
      exact hnd.imp_of_mem (fun {a b} ha hb hab => by have := hrng a ha; have := hrng b hb; intro e; exact hab (by omega))) (by
    intro u hu
    rcases List.mem_cons.1 hu with rfl | hu
    · exact ⟨hv, hg⟩
    · obtain ⟨x, hx, rfl⟩ := List.mem_map.1 hu
      have hr := hrng x hx
      obtain ⟨y, rfl⟩ : ∃ y : Nat, x = (y : Int) := ⟨x.toNat, by omega⟩
      rw [Int.toNat_natCast]
      exact ⟨by omega, h.left (by omega) (h.sym v y hv (by omega) hx)⟩)
  simp only [List.length_cons, List.length_map] at hl
  unfold deg
  exact hl
theorem edg_all {n : Nat} {r : Rst} {t : Tbl} (h : Agr n r t) (h3 : ∀ v, v < n → nthB r.gone v = false → deg r v ≤ 3) : ∀ i, i ≤ n → edgE r i ≤ 3 * (leftN r.gone i : Int) ∧ (allT t i = true ↔ edgE r i = 3 * (leftN r.gone i : Int))
  | 0, _ => by simp [edgE, leftN, allT]
  | i + 1, hi => by
    obtain ⟨k1, k2⟩ := edg_all h h3 i (by omega)
    have hb := h.inn i (by omega)
    rw [edgE, leftN, allT, hb]
    cases hg : nthB r.gone i with
    | true =>
      rw [if_pos rfl, if_pos rfl]
      refine ⟨k1, ?_⟩
      simp only [Bool.not_true, Bool.not_false, Bool.true_or, Bool.and_true]
      exact k2
    | false =>
      have hd := h3 i (by omega) hg
      have hnr := h.near (by omega : i < n) hg
      rw [if_neg Bool.noConfusion, if_neg Bool.noConfusion, h.tb.inn, hnr]
      unfold deg at hd
      refine ⟨by omega, ?_⟩
      simp only [Bool.not_false, Bool.not_true, Bool.false_or, Bool.and_eq_true, decide_eq_true_eq, k2]
      constructor
      · rintro ⟨a, b⟩; omega
      · intro a; omega
theorem Agr.four {n : Nat} {r : Rst} {t : Tbl} (h : Agr n r t) : fourT t = isFb r := by
  unfold fourT isFb
  rw [h.tb.inn, h.rst.near, h.count]
  by_cases h4 : r.count = 4
  · have hl : (leftN r.gone n : Int) = 4 := by have := h.rst.cnt; omega
    have h3 : ∀ v, v < n → nthB r.gone v = false → deg r v ≤ 3 := fun v hv hg => by have := deg_le_left h.rst hv hg; omega
    obtain ⟨_, k2⟩ := edg_all h h3 n (Nat.le_refl _)
    rw [hl] at k2
    rw [decide_eq_true h4, Bool.true_and, Bool.eq_iff_iff, decide_eq_true_eq, k2]
    constructor
    · intro e; exact ⟨h4, by omega⟩
    · intro e; have := e.2; omega
  · rw [decide_eq_false h4, Bool.false_and]
    exact (decide_eq_false (fun e => h4 e.1)).symm
theorem Agr.fits {n : Nat} {r : Rst} {t : Tbl} (h : Agr n r t) : fitT t = fitFb r := by
  unfold fitT fitFb
  rw [h.tb.inn, h.rst.near, h.mks 2 n (Nat.le_refl _), h.mks 1 n (Nat.le_refl _)]
end Go.Proofs.Ytnmocjhpbobahaa.L
