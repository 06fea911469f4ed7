/- R13: rim.Run of a right graph. HB: a rim of what is left; wide cuts. HC: a rim of what is left; small cuts. HD: a rim of what is left; small cuts, backward; any cut. HE: a rim of what is left: more than four, there is a cut. -/
import Derived.Test.YtnmocjhpbobahaaY24
import Derived.Test.YtnmocjhpbobahaaY29
import Derived.Test.YtnmocjhpbobahaaY17
import Derived.Test.YtnmocjhpbobahaaY30
import Derived.Test.YtnmocjhpbobahaaY31
import Derived.Test.YtnmocjhpbobahaaY28
import Derived.Test.YtnmocjhpbobahaaY32
import Derived.Test.YtnmocjhpbobahaaY0
set_option linter.unusedVariables false
set_option linter.unusedSimpArgs false
set_option linter.unnecessarySimpa false
namespace Go.Proofs.Ytnmocjhpbobahaa.L
open Go Go.RowKit
set_option maxRecDepth 100000
set_option maxHeartbeats 4000000
theorem leastF_cut {n : Nat} {r : Rst} (hr : RstI n r) {e : Cu} (h : leastF r = some e) : ∃ (a b c : Nat) (p q s : Int), e = ((a : Int), (b : Int), (c : Int), p, q, s) ∧ CutI n r a b c p q s ∧ cutF r a b c = (e, true) := by
  unfold leastF at h
  obtain ⟨a, ha, h⟩ := List.exists_of_findSome?_eq_some h
  rw [List.mem_range, hr.near] at ha
  unfold leastA at h
  obtain ⟨b', hb, h⟩ := List.exists_of_findSome?_eq_some h
  have hbr := hr.rng a ha b' hb
  obtain ⟨b, rfl⟩ : ∃ b : Nat, b' = (b : Int) := ⟨b'.toNat, by omega⟩
  unfold leastB at h
  split at h
  · cases h
  · next hba =>
    obtain ⟨c', hc, h⟩ := List.exists_of_findSome?_eq_some h
    rw [Int.toNat_natCast] at hc h
    have hcr := hr.rng b (by omega) c' hc
    obtain ⟨c, rfl⟩ : ∃ c : Nat, c' = (c : Int) := ⟨c'.toNat, by omega⟩
    unfold leastC at h
    split at h
    · next hh =>
      rw [Int.toNat_natCast] at h
      split at h
      · next hk =>
        obtain rfl := Option.some.inj h
        have hne : a ≠ b := by rintro rfl; exact hr.irr a ha hb
        obtain ⟨p, q, s, he, k⟩ := cutI hr.toRstS (show a < b by omega) (show b < c by omega) (by omega : c < n) (e := (cutF r a b c).1) (Prod.ext rfl hk)
        exact ⟨a, b, c, p, q, s, he, k, Prod.ext rfl hk⟩
      · cases h
    · cases h
def isFb (r : Rst) : Bool := decide (r.count = 4 ∧ edgE r r.near.length = 12)
def fitFb (r : Rst) : Bool := decide (cntM r 2 r.near.length ≤ 1 ∧ cntM r 1 r.near.length ≤ 3)
/-- The run's rounds. -/
def runF : Nat → Rst → List Cu → Int × List Cu
  | 0, _, cs => (4, cs)
  | k + 1, r, cs => if isFb r = true then (if fitFb r = true then (1, cs) else (6, cs)) else match leastF r with
    | none => (4, cs)
    | some e => if (doF r e).2 = true then runF k (doF r e).1 (cs ++ [e]) else (5, cs ++ [e])
@[simp] theorem sFourB {r : Rst} (h : FourOk r) : specFour [⟨.one, [.c (rstF r)]⟩] = some (twoB (isFb r) (fitFb r)) := sFour h
noncomputable abbrev ERun : Env := ext (ext (ext (ext (ext (ext env0 21 spec32) 26 specLow) 27 specBegin) 28 specFour) 29 specLeast) 30 specDo
attribute [-simp] sFour
attribute [local simp] lendO
/-- What rim.Run answers of a right graph. -/
def runG (n : Nat) (es : List (Int × Int)) : Int × List Cu :=
  if n < 4 then (2, []) else if 0 < (n : Int) ∧ minL (degF n es es.length) < 3 then (3, []) else runF (n + 1) (beginF n es) []
theorem wRun (n : Nat) (es : List (Int × Int)) (hR : RightG n es) : ∃ c, Try.f13.body = some c ∧ RP (regOf Try.prog ERun 58 u13) c (argsSt 0 [gr n es]) (endsAs Try.prog Try.f13 (tro (runG n es).1 (runG n es).2)) := by
  refine ⟨_, rfl, ?_⟩
  generalize hQ : endsAs Try.prog Try.f13 (tro (runG n es).1 (runG n es).2) = Q
  simp only [argsSt]
  have hn := hR.1
  by_cases h4 : (n : Int) < 4
  · rw [show runG n es = (2, []) by unfold runG; rw [if_pos (by omega)]] at hQ
    refine go ?_
    show Q .ret _; refine fin_ret hQ rfl ?_
    rfl
  cases hlow : decide (0 < (n : Int) ∧ minL (degF n es es.length) < 3) with
  | true =>
    rw [show runG n es = (3, []) by unfold runG; rw [if_neg (by omega), if_pos (of_decide_eq_true hlow)]] at hQ
    have h0 : 0 < (n : Int) := by omega
    have h3 := (of_decide_eq_true hlow).2
    refine go ?_
    show Q .ret _; refine fin_ret hQ rfl ?_
    rfl
  | false =>
  have h0 : 0 < (n : Int) := by omega
  have h3 : ¬ minL (degF n es es.length) < 3 := fun h => (of_decide_eq_false hlow) ⟨h0, h⟩
  rw [show runG n es = runF (n + 1) (beginF n es) [] by unfold runG; rw [if_neg (by omega), if_neg (of_decide_eq_false hlow)]] at hQ
  refine go ?_
  obtain ⟨res, hres⟩ : ∃ res, res = runF (n + 1) (beginF n es) [] := ⟨_, rfl⟩
  rw [← hres] at hQ
  apply rp_loop (fun k σ => ∃ (r : Rst) (cs : List Cu), res = runF k r cs ∧ RstI n r ∧ r.count < k ∧ cs.length + r.count ≤ n ∧ (σ = [(2, trobx 0 []), (3, ⟨.one, [.c (rstO r)]⟩), (4, ⟨.one, [.c (.sl true 6 () (CL cs))]⟩)] ∨ σ = [(2, trobx 0 []), (3, ⟨.one, [.c (rstO r)]⟩), (4, ⟨.one, [.c (.sl true 6 () (CL cs))]⟩), (55, bv (!true))])) (n + 1)
  · exact ⟨beginF n es, [], hres, begin_ok hR, by have := (begin_ok hR).cnt_le; omega, by have := (begin_ok hR).cnt_le; simp only [List.length_nil]; omega, .inl rfl⟩
  rintro k σ ⟨r, cs, hrun, hr, hck, hcl, hσ⟩
  have hcn := hr.cnt_le
  obtain ⟨k, rfl⟩ : ∃ k' : Nat, k = k' + 1 := ⟨k - 1, by omega⟩
  rw [runF] at hrun
  have fo : FourOk r := ⟨by rw [hr.near]; exact hr.toRstOk, by rw [hr.near]; omega, by rw [hr.near]; exact hr.mks⟩
  have lo : LeastOk r := ⟨by rw [hr.near]; exact hr.toRstOk, by rw [hr.near]; omega⟩
  have csl : cs.length ≤ 1000 := by omega
  clear hres
  rcases hσ with rfl | rfl
  · cases hb : isFb r with
    | true =>
      rw [hb, if_pos rfl] at hrun
      cases hf : fitFb r with
      | true =>
        rw [hf, if_pos rfl] at hrun
        rw [hrun] at hQ
        refine go ?_
        simp only [hb, hf]
        refine go ?_
        show Q .ret _; refine fin_ret hQ rfl ?_
        rfl
      | false =>
        rw [hf, if_neg Bool.noConfusion] at hrun
        rw [hrun] at hQ
        refine go ?_
        simp only [hb, hf]
        refine go ?_
        show Q .ret _; refine fin_ret hQ rfl ?_
        rfl
    | false =>
      rw [hb, if_neg Bool.noConfusion] at hrun
      refine go ?_
      simp only [hb]
      refine go ?_
      cases hle : leastF r with
      | none =>
        rw [hle] at hrun
        rw [hrun] at hQ
        simp only [hle, cuO]
        refine go ?_
        show Q .ret _; refine fin_ret hQ rfl ?_
        rfl
      | some e =>
        rw [hle] at hrun
        obtain ⟨a, b, c, p, q, s, rfl, k2, hcut⟩ := leastF_cut hr hle
        have dok : DoOk r ((a : Int), (b : Int), (c : Int), p, q, s) := ⟨n, a, b, c, p, q, s, hr, by omega, rfl, k2⟩
        have hds := do_step hr k2
        simp only at hrun
        simp only [hle, cuO]
        refine go ?_
        cases hd : (doF r ((a : Int), (b : Int), (c : Int), p, q, s)).2 with
        | true =>
          rw [hd, if_pos rfl] at hrun
          have hd2 := hds.2 hd
          refine go ?_
          rw [inBlock_normal]
          exact nxt k (by omega) ⟨_, _, hrun, hds.1, by omega, by rw [List.length_append]; simp only [List.length_cons, List.length_nil]; omega, .inr rfl⟩
        | false =>
          rw [hd, if_neg Bool.noConfusion] at hrun
          rw [hrun] at hQ
          refine go ?_
          show Q .ret _; refine fin_ret hQ rfl ?_
          rfl
  · cases hb : isFb r with
    | true =>
      rw [hb, if_pos rfl] at hrun
      cases hf : fitFb r with
      | true =>
        rw [hf, if_pos rfl] at hrun
        rw [hrun] at hQ
        refine go ?_
        simp only [hb, hf]
        refine go ?_
        show Q .ret _; refine fin_ret hQ rfl ?_
        rfl
      | false =>
        rw [hf, if_neg Bool.noConfusion] at hrun
        rw [hrun] at hQ
        refine go ?_
        simp only [hb, hf]
        refine go ?_
        show Q .ret _; refine fin_ret hQ rfl ?_
        rfl
    | false =>
      rw [hb, if_neg Bool.noConfusion] at hrun
      refine go ?_
      simp only [hb]
      refine go ?_
      cases hle : leastF r with
      | none =>
        rw [hle] at hrun
        rw [hrun] at hQ
        simp only [hle, cuO]
        refine go ?_
        show Q .ret _; refine fin_ret hQ rfl ?_
        rfl
      | some e =>
        rw [hle] at hrun
        obtain ⟨a, b, c, p, q, s, rfl, k2, hcut⟩ := leastF_cut hr hle
        have dok : DoOk r ((a : Int), (b : Int), (c : Int), p, q, s) := ⟨n, a, b, c, p, q, s, hr, by omega, rfl, k2⟩
        have hds := do_step hr k2
        simp only at hrun
        simp only [hle, cuO]
        refine go ?_
        cases hd : (doF r ((a : Int), (b : Int), (c : Int), p, q, s)).2 with
        | true =>
          rw [hd, if_pos rfl] at hrun
          have hd2 := hds.2 hd
          refine go ?_
          rw [inBlock_normal]
          exact nxt k (by omega) ⟨_, _, hrun, hds.1, by omega, by rw [List.length_append]; simp only [List.length_cons, List.length_nil]; omega, .inr rfl⟩
        | false =>
          rw [hd, if_neg Bool.noConfusion] at hrun
          rw [hrun] at hQ
          refine go ?_
          show Q .ret _; refine fin_ret hQ rfl ?_
          rfl
theorem ERun_ok : EnvOk Try.prog ERun := ext_ok (ext_ok (ext_ok (ext_ok (ext_ok (ext_ok env0_ok ok32) okLow) okBegin) okFour) okLeast) okDo
noncomputable def specRunR : Spec := spec1 asGr fun g => when (RightG g.1 g.2) (tro (runG g.1.toNat g.2).1 (runG g.1.toNat g.2).2)
theorem okRunR : SpecOk 13 specRunR := by
  intro us r h
  obtain ⟨x, l, rfl, hl, h⟩ := spec1_eq h
  obtain ⟨h1, rfl⟩ := when_eq h
  rw [asGr_eq hl]
  have h0 : ((l.1.toNat : Nat) : Int) = l.1 := by have := h1.1; omega
  have hw := wRun l.1.toNat l.2 (by rw [h0]; exact h1)
  rw [h0] at hw
  exact goodBy2 ERun_ok Try.func13 rfl (Nat.le_of_ble_eq_true rfl) (by decide) hw
@[simp] theorem sRunR (n : Nat) (es : List (Int × Int)) (h : RightG n es) : specRunR [gr n es] = some (tro (runG n es).1 (runG n es).2) := by
  unfold specRunR; rw [spec1_v _ _ _ _ (asGr_gr (n : Int) es)]; exact when_pos _ h
end Go.Proofs.Ytnmocjhpbobahaa.L
namespace Go.Proofs.Ytnmocjhpbobahaa.L
open Go Go.RowKit
open Go.Proofs.Ytnmocjhpbobahaa.H (Rim Rep Wd Sm)
set_option maxRecDepth 100000
abbrev vR (n : Nat) (r : Rst) : Nat → Prop := fun v => v < n ∧ nthB r.gone v = false
abbrev aR (r : Rst) : Nat → Nat → Prop := fun v w => (w : Int) ∈ nthR r.near v
/-- A rim that fits the marks. -/
def RimR (n : Nat) (r : Rst) : Prop := ∃ L : Nat → Prop, Rim (vR n r) (aR r) L ∧ ∀ v, vR n r v → (nth r.mark v = 1 → L v) ∧ (nth r.mark v = 2 → ¬ L v)
theorem nthR_out {l : List (List Int)} {v : Nat} (h : l.length ≤ v) : nthR l v = [] := by simp [nthR, List.getElem?_eq_none h]
theorem aR_rng {n : Nat} {r : Rst} (h : RstI n r) {v w : Nat} (q : aR r v w) : v < n ∧ w < n := by
  have hv : v < n := by
    rcases (by omega : v < n ∨ n ≤ v) with k | k
    · exact k
    · have q : (w : Int) ∈ nthR r.near v := q
      rw [nthR_out (by rw [h.near]; exact k)] at q; cases q
  have := h.rng v hv _ q
  exact ⟨hv, by omega⟩
theorem aR_sym {n : Nat} {r : Rst} (h : RstI n r) (v w : Nat) (q : aR r v w) : aR r w v := by
  obtain ⟨hv, hw⟩ := aR_rng h q
  exact h.sym v w hv hw q
theorem row_len {n : Nat} {r : Rst} (h : RstI n r) {v : Nat} (hv : v < n) {l : List Nat} (hn : l.Nodup) (hl : ∀ w, aR r v w ↔ w ∈ l) : (nthR r.near v).length = l.length := by
  have hnd := h.toRstOk.nodup hv
  have hrng := h.rng v hv
  have hn2 : ((nthR r.near v).map Int.toNat).Nodup := by
    unfold List.Nodup
    rw [List.pairwise_map]
    exact hnd.imp_of_mem (fun {a b} ha hb hab => by have := hrng a ha; have := hrng b hb; intro e; exact hab (by omega))
  have hp : List.Perm ((nthR r.near v).map Int.toNat) l := (List.perm_ext_iff_of_nodup hn2 hn).2 fun w => by
    rw [← hl, List.mem_map]
    constructor
    · rintro ⟨x, hx, rfl⟩
      have := hrng x hx
      show ((x.toNat : Nat) : Int) ∈ _
      rw [show ((x.toNat : Nat) : Int) = x by omega]; exact hx
    · exact fun q => ⟨(w : Int), q, by simp⟩
  have := hp.length_eq
  rwa [List.length_map] at this
theorem leftN_filter (g : List Bool) : ∀ n, leftN g n = ((List.range n).filter fun v => !(nthB g v)).length
  | 0 => rfl
  | n + 1 => by
    rw [List.range_succ, List.filter_append, List.length_append, leftN, leftN_filter g n]
    cases hb : nthB g n <;> simp [hb]
theorem all_len {n : Nat} {r : Rst} (h : RstI n r) {l : List Nat} (hn : l.Nodup) (hl : ∀ v, vR n r v ↔ v ∈ l) : (l.length : Int) = r.count := by
  have hp : List.Perm ((List.range n).filter fun v => !(nthB r.gone v)) l := by
    refine (List.perm_ext_iff_of_nodup ((List.nodup_range).sublist List.filter_sublist) hn).2 fun v => ?_
    rw [List.mem_filter, List.mem_range, ← hl]
    simp
  rw [h.cnt, leftN_filter, hp.length_eq]
theorem rep_count {n : Nat} {r : Rst} (h : RstI n r) {L : Nat → Prop} {u : Nat} {f : H.F} (k : Rep (vR n r) (aR r) L u f) : (f.vs.length : Int) + 1 = r.count := by
  have := all_len h k.hal.nd k.v
  rw [List.length_cons] at this
  push_cast at this
  exact this
/-- A leaf has three neighbours. -/
theorem leaf_deg {n : Nat} {r : Rst} (h : RstI n r) {L : Nat → Prop} (k : Rim (vR n r) (aR r) L) {v : Nat} (hv : L v) : deg r v = 3 := by
  obtain ⟨u, f, k⟩ := k
  obtain ⟨w, g, hw, _, s⟩ := H.up_leaf k.hal ((k.l v).1 hv)
  have k' := k.sim s
  have hlen := k'.hal.len
  simp only [H.F.len] at hlen
  have nd := k'.hal.nd
  simp only [H.F.vs, List.nodup_cons, List.mem_cons, not_or] at nd
  obtain ⟨⟨wv, wg⟩, vg, gn⟩ := nd
  have go : g.ok := k'.hal.ok
  obtain ⟨a, b, ha, hb⟩ := H.fr_ends go (by omega)
  have hab := H.ends_ne gn go (by omega) ha hb
  have am := H.F.fr_sub (List.mem_of_head? ha)
  have bm := H.F.fr_sub (List.mem_of_getLast? hb)
  have hvn : v < n := ((k'.v v).2 (List.mem_cons_of_mem _ List.mem_cons_self)).1
  refine row_len h hvn (l := [w, a, b]) ?_ fun x => ?_
  · simp only [List.nodup_cons, List.mem_cons, List.not_mem_nil, or_false, not_or, not_false_eq_true, List.nodup_nil, and_true]
    exact ⟨⟨fun e => wg (e ▸ am), fun e => wg (e ▸ bm)⟩, fun e => hab e.symm⟩
  · rw [k'.a, H.E_first k'.hal, ha, hb]
    simp only [Option.some.injEq, List.mem_cons, List.not_mem_nil, or_false]
    grind
theorem few_deg {n : Nat} {r : Rst} (h : RstI n r) {v a b c : Nat} (hv : v < n) (hl : ∀ w, aR r v w → w = a ∨ w = b ∨ w = c) : deg r v ≤ 3 := by
  have hnd := h.toRstOk.nodup hv
  have : (nthR r.near v).length ≤ ([(a : Int), b, c]).length := hnd.length_le_of_subset fun x hx => by
    have := h.rng v hv x hx
    obtain ⟨w, rfl⟩ : ∃ w : Nat, x = (w : Int) := ⟨x.toNat, by omega⟩
    rcases hl w hx with rfl | rfl | rfl <;> simp
  exact this
/-! ### wide cuts -/
theorem WideI.wd {n : Nat} {r : Rst} (h : RstI n r) {u x y s t : Nat} (w : WideI n r u x y s t) : Wd (vR n r) (aR r) u x y s t := by
  have hxy : x ≠ y := by have := w.xy; omega
  refine ⟨w.ux, w.uy, hxy, w.su, w.sx, w.sy, w.tu, w.tx, w.ty, fun v => ?_, fun v => ?_, aR_sym h, ⟨w.yn, (w.gone h).2.1⟩⟩
  · constructor
    · intro q
      have := w.ax _ q
      omega
    · rintro (rfl | rfl | rfl)
      · exact w.xu
      · exact h.sym _ x w.yn w.xn w.yx
      · exact w.xs
  · constructor
    · intro q
      have := w.ay _ q
      omega
    · rintro (rfl | rfl | rfl)
      · exact w.yu
      · exact w.yx
      · exact w.yt
theorem wide_rel {n : Nat} {r : Rst} (h : RstI n r) {u x y s t : Nat} (w : WideI n r u x y s t) (v v' : Nat) : aR ((r.leave y).join x t) v v' ↔ H.wdA (aR r) x y t v v' := by
  have h1 := h.toRstS.leave w.yn
  show (v' : Int) ∈ nthR ((r.leave y).join x t).near v ↔ _
  rw [join_mem h1.toRstOk w.xn w.tn (fun e => w.tx e.symm)]
  have hl : (v' : Int) ∈ nthR (r.leave y).near v ↔ (aR r v v' ∧ v ≠ y ∧ v' ≠ y) := by
    rcases (by omega : v < n ∨ n ≤ v) with k | k
    · rw [leave_mem h.toRstS w.yn k]
      constructor
      · rintro ⟨a, b, c⟩; exact ⟨a, b, by omega⟩
      · rintro ⟨a, b, c⟩; exact ⟨a, b, by omega⟩
    · rw [nthR_out (by rw [h1.toRstOk.near]; exact k)]
      constructor
      · intro q; cases q
      · rintro ⟨a, _⟩
        have := (aR_rng h a).1
        omega
  rw [hl]
  show _ ↔ (aR r v v' ∧ v ≠ y ∧ v' ≠ y) ∨ (v = x ∧ v' = t) ∨ (v = t ∧ v' = x)
  constructor
  · rintro (q | ⟨a, b⟩ | ⟨a, b⟩)
    · exact .inl q
    · exact .inr (.inr ⟨a, by omega⟩)
    · exact .inr (.inl ⟨a, by omega⟩)
  · rintro (q | ⟨a, b⟩ | ⟨a, b⟩)
    · exact .inl q
    · exact .inr (.inr ⟨a, by omega⟩)
    · exact .inr (.inl ⟨a, by omega⟩)
theorem wide_vr {n : Nat} {r : Rst} (h : RstI n r) {y : Nat} (hy : y < n) (v : Nat) : (v < n ∧ nthB (r.gone.set y true) v = false) ↔ H.offV (vR n r) y v := by
  rw [nthB_set (by rw [h.toRstOk.gone]; exact hy)]
  show _ ↔ (v < n ∧ nthB r.gone v = false) ∧ v ≠ y
  by_cases e : y = v
  · rw [if_pos e]; constructor
    · rintro ⟨_, q⟩; cases q
    · rintro ⟨_, q⟩; exact (q e.symm).elim
  · rw [if_neg e]
    exact ⟨fun q => ⟨q, fun k => e k.symm⟩, fun q => q.1⟩
theorem wide_mks {n : Nat} {r : Rst} (h : RstI n r) {u x y s t : Nat} (w : WideI n r u x y s t) (v : Nat) : nth ((((r.mark.set u 2).set x 1).set s 1).set t 1) v = if t = v then 1 else if s = v then 1 else if x = v then 1 else if u = v then 2 else nth r.mark v := by
  have ml := h.toRstOk.mark
  rw [nth_set (by simp only [List.length_set]; have := w.tn; omega), nth_set (by simp only [List.length_set]; have := w.sn; omega), nth_set (by simp only [List.length_set]; have := w.xn; omega), nth_set (by have := w.un; omega)]
theorem innB_f {r : Rst} {v : Nat} (h2 : nth r.mark v ≠ 2) (h3 : deg r v ≤ 3) : innB r v = false := by
  unfold innB
  unfold deg at h3
  exact decide_eq_false (fun e => by rcases e with e | e; exact h2 e; omega)
theorem wide_F {n : Nat} {r : Rst} (h : RstD n r) {u x y s t : Nat} (w : WideI n r u x y s t) (k : RimR n r) : (wideF r u x y s t).2 = true ∧ RimR n (wideF r u x y s t).1 := by
  obtain ⟨L, k, hm⟩ := k
  have hI := h.toRstI
  obtain ⟨gx, gy, gt, gs⟩ := w.gone hI
  have hb : ∀ u' f, Rep (vR n r) (aR r) L u' f → f.vs.length ≠ 3 := fun u' f q e => by
    have := rep_count hI q
    have := w.cnt
    omega
  have hul : ¬ L u := fun q => w.du (leaf_deg hI k q)
  have ugn : nthB r.gone u = false := hI.left w.un (hI.sym x u w.xn w.un w.xu)
  have hc : ¬ ∃ r', ∀ v, aR r u v → v = x ∨ v = y ∨ v = r' := by
    rintro ⟨r', hr'⟩
    have h1 := few_deg hI w.un hr'
    have h2 := h.d3 u w.un ugn
    exact w.du (by omega)
  obtain ⟨lx, ly, ls, lt, st, k'⟩ := H.wide_fwd k hb (w.wd hI) hc hul
  have nb : ∀ v, L v → v < n → nthB r.gone v = false → innB r v = false := fun v hv hn hg => innB_f (fun e => (hm v ⟨hn, hg⟩).2 e hv) (by rw [leaf_deg hI k hv]; exact Nat.le_refl _)
  have hno : ¬ (s = t ∨ innB r x = true ∨ innB r y = true ∨ innB r s = true ∨ innB r t = true) := by
    rw [nb x lx w.xn gx, nb y ly w.yn gy, nb s ls w.sn gs, nb t lt w.tn gt]
    rintro (e | e | e | e | e)
    · exact st e
    all_goals cases e
  unfold wideF
  rw [if_neg hno]
  refine ⟨rfl, H.offV L y, k'.congr (fun v => (wide_vr hI w.yn v).symm) (fun v v' => (wide_rel hI w v v').symm) (fun v => Iff.rfl), fun v hv => ?_⟩
  have hv' := (wide_vr hI w.yn v).1 hv
  have hmk : nth ((((((r.leave y).join x t).mark.set u 2).set x 1).set s 1).set t 1) v = _ := wide_mks hI w v
  show (nth ((((((r.leave y).join x t).mark.set u 2).set x 1).set s 1).set t 1) v = 1 → L v ∧ v ≠ y) ∧ (nth ((((((r.leave y).join x t).mark.set u 2).set x 1).set s 1).set t 1) v = 2 → ¬ (L v ∧ v ≠ y))
  rw [hmk]
  have hmv := hm v hv'.1
  by_cases e1 : t = v
  · subst e1; rw [if_pos rfl]; exact ⟨fun _ => ⟨lt, hv'.2⟩, fun e => by omega⟩
  rw [if_neg e1]
  by_cases e2 : s = v
  · subst e2; rw [if_pos rfl]; exact ⟨fun _ => ⟨ls, hv'.2⟩, fun e => by omega⟩
  rw [if_neg e2]
  by_cases e3 : x = v
  · subst e3; rw [if_pos rfl]; exact ⟨fun _ => ⟨lx, hv'.2⟩, fun e => by omega⟩
  rw [if_neg e3]
  by_cases e4 : u = v
  · subst e4; rw [if_pos rfl]; exact ⟨fun e => by omega, fun _ q => hul q.1⟩
  rw [if_neg e4]
  exact ⟨fun e => ⟨hmv.1 e, hv'.2⟩, fun e q => hmv.2 e q.1⟩
theorem wide_B {n : Nat} {r : Rst} (h : RstD n r) {u x y s t : Nat} (w : WideI n r u x y s t) (hd : (wideF r u x y s t).2 = true) (k : RimR n (wideF r u x y s t).1) : RimR n r := by
  have hI := h.toRstI
  obtain ⟨gx, gy, gt, gs⟩ := w.gone hI
  unfold wideF at hd k
  split at hd
  · cases hd
  · next hno =>
    rw [if_neg hno] at k
    obtain ⟨L, k, hm⟩ := k
    have k1 : Rim (H.offV (vR n r) y) (H.wdA (aR r) x y t) L := k.congr (fun v => wide_vr hI w.yn v) (fun v v' => wide_rel hI w v v') (fun v => Iff.rfl)
    have hm' : ∀ v, H.offV (vR n r) y v → (nth ((((r.mark.set u 2).set x 1).set s 1).set t 1) v = 1 → L v) ∧ (nth ((((r.mark.set u 2).set x 1).set s 1).set t 1) v = 2 → ¬ L v) := fun v hv => hm v ((wide_vr hI w.yn v).2 hv)
    have mk := wide_mks hI w
    have hxy : x ≠ y := by have := w.xy; omega
    have ugn : nthB r.gone u = false := hI.left w.un (hI.sym x u w.xn w.un w.xu)
    have lx : L x := (hm' x ⟨⟨w.xn, gx⟩, hxy⟩).1 (by rw [mk]; split; rfl; split; rfl; rw [if_pos rfl])
    have ls : L s := (hm' s ⟨⟨w.sn, gs⟩, w.sy⟩).1 (by rw [mk]; split; rfl; rw [if_pos rfl])
    have lt : L t := (hm' t ⟨⟨w.tn, gt⟩, w.ty⟩).1 (by rw [mk, if_pos rfl])
    have lu : ¬ L u := (hm' u ⟨⟨w.un, ugn⟩, w.uy⟩).2 (by rw [mk, if_neg w.tu, if_neg w.su, if_neg (fun e => w.ux e.symm), if_pos rfl])
    have xt : ¬ aR r x t := fun q => by
      have := w.ax _ q
      have := w.tu; have := w.ty; have hst : s ≠ t := fun e => hno (.inl e)
      omega
    have hst : s ≠ t := fun e => hno (.inl e)
    refine ⟨_, H.wide_bwd k1 (w.wd hI) hst xt lu lx, fun v hv => ?_⟩
    have nb : ∀ v, (innB r v = true → False) → nth r.mark v ≠ 2 := fun v q => (innB_no (by cases e : innB r v with
      | false => rfl
      | true => exact (q e).elim)).1
    by_cases ey : v = y
    · subst ey
      exact ⟨fun _ => .inr rfl, fun e => (nb v (fun q => hno (.inr (.inr (.inl q)))) e).elim⟩
    have hvo : H.offV (vR n r) y v := ⟨hv, ey⟩
    by_cases ex : v = x
    · subst ex; exact ⟨fun _ => .inl lx, fun e => (nb v (fun q => hno (.inr (.inl q))) e).elim⟩
    by_cases es : v = s
    · subst es; exact ⟨fun _ => .inl ls, fun e => (nb v (fun q => hno (.inr (.inr (.inr (.inl q))))) e).elim⟩
    by_cases et : v = t
    · subst et; exact ⟨fun _ => .inl lt, fun e => (nb v (fun q => hno (.inr (.inr (.inr (.inr q))))) e).elim⟩
    by_cases eu : v = u
    · subst eu
      exact ⟨fun e => (w.du (h.lf v w.un ugn e)).elim, fun _ q => by rcases q with q | q; exact lu q; exact w.uy q⟩
    have hmv := hm' v hvo
    rw [mk, if_neg (fun e => et e.symm), if_neg (fun e => es e.symm), if_neg (fun e => ex e.symm), if_neg (fun e => eu e.symm)] at hmv
    exact ⟨fun e => .inl (hmv.1 e), fun e q => by rcases q with q | q; exact hmv.2 e q; exact ey q⟩
end Go.Proofs.Ytnmocjhpbobahaa.L
namespace Go.Proofs.Ytnmocjhpbobahaa.L
open Go Go.RowKit
open Go.Proofs.Ytnmocjhpbobahaa.H (Rim Rep Wd Sm)
set_option maxRecDepth 100000
theorem Sm.swap2 {V : Nat → Prop} {A : Nat → Nat → Prop} {a x y z p q o : Nat} (k : Sm V A a x y z p q o) : Sm V A a x z y p o q :=
  ⟨k.xz, k.xy, fun e => k.yz e.symm, k.px, k.pz, k.py, k.ox, k.oz, k.oy, k.qx, k.qz, k.qy, fun v => by rw [k.ax]; grind, k.az, k.ay, k.sym, k.vx, k.vz, k.vy, by have := k.aa; grind⟩
theorem SmallI.sm {n : Nat} {r : Rst} (h : RstI n r) {a b c p q s : Nat} (w : SmallI n r a b c p q s) : Sm (vR n r) (aR r) a a b c p q s := by
  have h1 := w.ab; have h2 := w.bc; have h3 := w.cn
  have an : a < n := by omega
  have bn : b < n := by omega
  refine ⟨by omega, by omega, by omega, w.pa.1, w.pa.2.1, w.pa.2.2, w.qa.2.1, w.qa.1, w.qa.2.2, w.sa.2.1, w.sa.2.2, w.sa.1, fun v => ?_, fun v => ?_, fun v => ?_, aR_sym h, ⟨an, h.left an w.eab⟩, ⟨bn, h.left bn w.ebc⟩, ⟨w.cn, h.left w.cn w.ecs⟩, .inl rfl⟩
  · constructor
    · intro q'; have := w.aa _ q'; omega
    · rintro (rfl | rfl | rfl)
      · exact w.eab
      · exact w.eac
      · exact w.eap
  · constructor
    · intro q'; have := w.ba _ q'; omega
    · rintro (rfl | rfl | rfl)
      · exact h.sym _ b an bn w.eab
      · exact w.ebc
      · exact w.ebq
  · constructor
    · intro q'; have := w.ca _ q'; omega
    · rintro (rfl | rfl | rfl)
      · exact h.sym _ c an w.cn w.eac
      · exact h.sym _ c bn w.cn w.ebc
      · exact w.ecs
theorem leave_rel {n : Nat} {r : Rst} (h : RstS n r) {y : Nat} (hy : y < n) (v v' : Nat) : aR (r.leave y) v v' ↔ (aR r v v' ∧ v ≠ y ∧ v' ≠ y) := by
  have h1 := h.leave hy
  show (v' : Int) ∈ nthR (r.leave y).near v ↔ _
  rcases (by omega : v < n ∨ n ≤ v) with k | k
  · rw [leave_mem h hy k]
    constructor
    · rintro ⟨a, b, c⟩; exact ⟨a, b, by omega⟩
    · rintro ⟨a, b, c⟩; exact ⟨a, b, by omega⟩
  · rw [nthR_out (by rw [h1.toRstOk.near]; exact k)]
    constructor
    · intro q; cases q
    · rintro ⟨a, _⟩
      have a : (v' : Int) ∈ nthR r.near v := a
      rw [nthR_out (by rw [h.toRstOk.near]; exact k)] at a
      cases a
theorem join_rel {n : Nat} {r : Rst} (h : RstOk n r) {a b : Nat} (ha : a < n) (hb : b < n) (hab : a ≠ b) (v v' : Nat) : aR (r.join a b) v v' ↔ aR r v v' ∨ (v = b ∧ v' = a) ∨ (v = a ∧ v' = b) := by
  show (v' : Int) ∈ nthR (r.join a b).near v ↔ _
  rw [join_mem h ha hb hab]
  simp only [Int.ofNat_inj]
abbrev offR (r : Rst) (a b c q s : Nat) : Rst := (((r.leave b).leave c).join a q).join a s
/-- One of the three is z, with oz outside; the others are x with px and y with qy. -/
def Per (a b c p q s x y z px qy oz : Nat) : Prop := (z = c ∧ x = a ∧ y = b ∧ oz = s ∧ px = p ∧ qy = q) ∨ (z = b ∧ x = a ∧ y = c ∧ oz = q ∧ px = p ∧ qy = s) ∨ (z = a ∧ x = b ∧ y = c ∧ oz = p ∧ px = q ∧ qy = s)
theorem SmallI.per {n : Nat} {r : Rst} (h : RstI n r) {a b c p q s : Nat} (w : SmallI n r a b c p q s) {x y z px qy oz : Nat} (hp : Per a b c p q s x y z px qy oz) : Sm (vR n r) (aR r) a x y z px qy oz := by
  have k := w.sm h
  rcases hp with ⟨rfl, rfl, rfl, rfl, rfl, rfl⟩ | ⟨rfl, rfl, rfl, rfl, rfl, rfl⟩ | ⟨rfl, rfl, rfl, rfl, rfl, rfl⟩
  · exact k
  · exact Sm.swap2 k
  · exact Sm.swap2 k.swap
theorem small_rel {n : Nat} {r : Rst} (h : RstI n r) {a b c p q s : Nat} (w : SmallI n r a b c p q s) (hd : p ≠ q ∧ p ≠ s ∧ q ≠ s) (v v' : Nat) : aR (offR r a b c q s) v v' ↔ H.smA (aR r) a a b c p q s v v' := by
  have h1 := w.ab; have h2 := w.bc; have h3 := w.cn
  have an : a < n := by omega
  have bn : b < n := by omega
  have s1 := h.toRstS.leave bn
  have s2 := s1.leave w.cn
  have aq : a ≠ q := fun e => w.qa.2.1 e.symm
  have as' : a ≠ s := fun e => w.sa.2.1 e.symm
  have o3 : RstOk n (((r.leave b).leave c).join a q) := by
    refine (RstS.join s2 an w.qn aq ?_).toRstOk
    intro e
    have e : aR ((r.leave b).leave c) a q := e
    rw [leave_rel s1 w.cn, leave_rel h.toRstS bn] at e
    rcases ((w.sm h).ax q).1 e.1.1 with e' | e' | e'
    · exact w.qa.1 e'
    · exact w.qa.2.2 e'
    · exact hd.1 e'.symm
  rw [join_rel o3 an w.sn as', join_rel s2.toRstOk an w.qn aq, leave_rel s1 w.cn, leave_rel h.toRstS bn]
  have k := w.sm h
  have ax := k.ax
  have sy : aR r v v' ↔ aR r v' v := ⟨k.sym _ _, k.sym _ _⟩
  have px := k.px; have py := k.py; have pz := k.pz
  show _ ↔ (aR r v v' ∧ (v ≠ a ∧ v ≠ b ∧ v ≠ c) ∧ v' ≠ a ∧ v' ≠ b ∧ v' ≠ c) ∨ (v = a ∧ (v' = p ∨ v' = q ∨ v' = s)) ∨ (v' = a ∧ (v = p ∨ v = q ∨ v = s))
  by_cases va : v = a
  · subst va
    rw [ax]
    have := k.qx; have := k.ox; have := k.qy; have := k.oy; have := k.qz; have := k.oz; have := k.xy; have := k.xz
    grind
  · by_cases va' : v' = a
    · subst va'
      rw [sy, ax]
      have := k.qx; have := k.ox; have := k.qy; have := k.oy; have := k.qz; have := k.oz; have := k.xy; have := k.xz
      grind
    · grind
theorem small_vr {n : Nat} {r : Rst} (h : RstI n r) {a b c p q s : Nat} (w : SmallI n r a b c p q s) (v : Nat) : (v < n ∧ nthB (offR r a b c q s).gone v = false) ↔ H.smV (vR n r) a a b c v := by
  have h1 := w.ab; have h2 := w.bc; have h3 := w.cn
  have bn : b < n := by omega
  have k := w.sm h
  show (v < n ∧ nthB ((r.gone.set b true).set c true) v = false) ↔ ((v < n ∧ nthB r.gone v = false) ∧ v ≠ a ∧ v ≠ b ∧ v ≠ c) ∨ v = a
  have gl := h.toRstOk.gone
  rw [nthB_set (by rw [List.length_set, gl]; exact w.cn), nthB_set (by rw [gl]; exact bn)]
  have va : a < n ∧ nthB r.gone a = false := k.vx
  by_cases e1 : c = v
  · subst e1; rw [if_pos rfl]
    have := k.xz
    grind
  rw [if_neg e1]
  by_cases e2 : b = v
  · subst e2; rw [if_pos rfl]
    have := k.xy
    grind
  rw [if_neg e2]
  by_cases e3 : v = a
  · subst e3; grind
  · grind
/-! ### what is asked -/
theorem layM_at : ∀ (l : List (Int × Int)) (m : List Int) (v : Nat), (∀ e ∈ l, ∃ x : Nat, e.1 = x ∧ x < m.length) → nth (layM m l) v = nth m v ∨ ∃ k, ((v : Int), k) ∈ l ∧ nth (layM m l) v = k
  | [], m, v, _ => .inl rfl
  | e :: l, m, v, he => by
    obtain ⟨x, hx, hxl⟩ := he e List.mem_cons_self
    have hl : layM m (e :: l) = layM (m.set x e.2) l := by unfold layM; rw [List.foldl_cons, hx]; simp
    rw [hl]
    rcases layM_at l (m.set x e.2) v (fun e' h' => by rw [List.length_set]; exact he e' (List.mem_cons_of_mem _ h')) with q | ⟨k, q, q'⟩
    · rw [q, nth_set hxl]
      by_cases exv : x = v
      · rw [if_pos exv]
        exact .inr ⟨e.2, by rw [← exv, ← hx]; exact List.mem_cons_self, rfl⟩
      · rw [if_neg exv]; exact .inl rfl
    · exact .inr ⟨k, List.mem_cons_of_mem _ q, q'⟩
theorem layM_uni : ∀ (l : List (Int × Int)) (m : List Int) (v : Nat) (k : Int), (∀ e ∈ l, ∃ x : Nat, e.1 = x ∧ x < m.length) → ((v : Int), k) ∈ l → (∀ k', ((v : Int), k') ∈ l → k' = k) → nth (layM m l) v = k
  | [], _, _, _, _, h, _ => by cases h
  | e :: l, m, v, k, he, h, hu => by
    obtain ⟨x, hx, hxl⟩ := he e List.mem_cons_self
    have hl : layM m (e :: l) = layM (m.set x e.2) l := by unfold layM; rw [List.foldl_cons, hx]; simp
    have he' : ∀ e' ∈ l, ∃ x' : Nat, e'.1 = x' ∧ x' < (m.set x e.2).length := fun e' h' => by rw [List.length_set]; exact he e' (List.mem_cons_of_mem _ h')
    rw [hl]
    by_cases hin : ((v : Int), k) ∈ l
    · exact layM_uni l _ v k he' hin fun k' q => hu k' (List.mem_cons_of_mem _ q)
    · have hek : ((v : Int), k) = e := (List.mem_cons.1 h).resolve_right hin
      rcases layM_at l (m.set x e.2) v he' with q | ⟨k', q, q'⟩
      · have exv : x = v := by rw [← hek] at hx; simpa using hx.symm
        rw [q, nth_set hxl, if_pos exv, ← hek]
      · rw [q']; exact hu k' (List.mem_cons_of_mem _ q)
theorem wantOne_uni {r : Rst} {i2 : Int} {d : Bool} {v : Nat} {o k k' : Int} (h : (o, k) ∈ wantOne r i2 d v o) (h' : (o, k') ∈ wantOne r i2 d v o) : k' = k := by
  unfold wantOne at h h'
  split at h
  · next hc => rw [if_pos hc] at h'; simp at h h'; rw [h, h']
  · next hc =>
    rw [if_neg hc] at h'
    split at h
    · next hd => rw [if_pos hd] at h'; simp at h h'; rw [h, h']
    · cases h
/-- A leaf asks that its outer neighbour be one. -/
theorem one_x {r : Rst} {i2 : Int} {d : Bool} {x : Nat} {o : Int} (h2 : nth r.mark x ≠ 2) (hd : d = true → i2 = 0 → nth r.mark x = 1) {e : Int × Int} (he : e ∈ wantOne r i2 d x o) : e = (o, 1) := by
  unfold wantOne at he
  split at he
  · next hc =>
    have ha := of_decide_eq_true hc.2
    rcases ha with ha | ⟨h0, h1⟩
    · exact (h2 ha).elim
    · exact (h1 (hd hc.1 h0)).elim
  · split at he
    · simpa using he
    · cases he
theorem one_z {r : Rst} {i2 : Int} {d : Bool} {z : Nat} {o : Int} (h1 : nth r.mark z ≠ 1) (ha : nth r.mark z = 2 ∨ i2 = 0) {e : Int × Int} (he : e ∈ wantOne r i2 d z o) : e = (o, 2) := by
  unfold wantOne at he
  have hap : apexB r i2 z = true := decide_eq_true (by rcases ha with ha | ha; exact .inl ha; exact .inr ⟨ha, h1⟩)
  rw [hap] at he
  by_cases hd : d = true
  · rw [if_pos ⟨hd, rfl⟩] at he; simpa using he
  · rw [if_neg (fun q => hd q.1), if_neg (by rintro (q | q); exact hd q; exact h1 q)] at he; cases he
theorem ct_12 (r : Rst) (v : Nat) : (nth r.mark v = 2 → ct r 2 v = 1) ∧ (nth r.mark v ≠ 2 → ct r 2 v = 0) ∧ (nth r.mark v = 1 → ct r 1 v = 1) ∧ (nth r.mark v ≠ 1 → ct r 1 v = 0) := by
  unfold ct
  refine ⟨fun h => if_pos h, fun h => if_neg h, fun h => if_pos h, fun h => if_neg h⟩
theorem wants_fwd {r : Rst} {a b c p q s x y z px qy oz : Nat} (hp : Per a b c p q s x y z px qy oz) (hz : nth r.mark z ≠ 1) (hx : nth r.mark x ≠ 2) (hy : nth r.mark y ≠ 2) : ¬ 1 < cnt3 r 2 a b c ∧ ¬ 2 < cnt3 r 1 a b c ∧ ∀ e ∈ wantsAll r a b c p q s, e = ((oz : Int), 2) ∨ e = ((px : Int), 1) ∨ e = ((qy : Int), 1) := by
  have cz := ct_12 r z
  have cx := ct_12 r x
  have cy := ct_12 r y
  have lz := ct_le r 1 z; have lx := ct_le r 1 x; have ly := ct_le r 1 y; have mz := ct_le r 2 z
  have e2 : cnt3 r 2 a b c = ct r 2 z := by
    unfold cnt3
    rcases hp with ⟨rfl, rfl, rfl, rfl, rfl, rfl⟩ | ⟨rfl, rfl, rfl, rfl, rfl, rfl⟩ | ⟨rfl, rfl, rfl, rfl, rfl, rfl⟩
    all_goals (rw [cx.2.1 hx, cy.2.1 hy]; omega)
  have e1 : cnt3 r 1 a b c = ct r 1 x + ct r 1 y := by
    unfold cnt3
    rcases hp with ⟨rfl, rfl, rfl, rfl, rfl, rfl⟩ | ⟨rfl, rfl, rfl, rfl, rfl, rfl⟩ | ⟨rfl, rfl, rfl, rfl, rfl, rfl⟩
    all_goals (rw [cz.2.2.2 hz]; omega)
  have az : nth r.mark z = 2 ∨ cnt3 r 2 a b c = 0 := by
    by_cases h : nth r.mark z = 2
    · exact .inl h
    · right; rw [e2, cz.2.1 h]
  have dd : decide (cnt3 r 2 a b c = 1 ∨ cnt3 r 1 a b c = 2) = true → cnt3 r 2 a b c = 0 → nth r.mark x = 1 ∧ nth r.mark y = 1 := fun hd h0 => by
    rcases of_decide_eq_true hd with q | q
    · omega
    · constructor
      · apply Classical.byContradiction; intro k; have := cx.2.2.2 k; omega
      · apply Classical.byContradiction; intro k; have := cy.2.2.2 k; omega
  refine ⟨by omega, by omega, fun e he => ?_⟩
  unfold wantsAll at he
  rw [List.mem_append, List.mem_append] at he
  rcases hp with ⟨rfl, rfl, rfl, rfl, rfl, rfl⟩ | ⟨rfl, rfl, rfl, rfl, rfl, rfl⟩ | ⟨rfl, rfl, rfl, rfl, rfl, rfl⟩
  · rcases he with (he | he) | he
    · exact .inr (.inl (one_x hx (fun h h' => (dd h h').1) he))
    · exact .inr (.inr (one_x hy (fun h h' => (dd h h').2) he))
    · exact .inl (one_z hz az he)
  · rcases he with (he | he) | he
    · exact .inr (.inl (one_x hx (fun h h' => (dd h h').1) he))
    · exact .inl (one_z hz az he)
    · exact .inr (.inr (one_x hy (fun h h' => (dd h h').2) he))
  · rcases he with (he | he) | he
    · exact .inl (one_z hz az he)
    · exact .inr (.inl (one_x hx (fun h h' => (dd h h').1) he))
    · exact .inr (.inr (one_x hy (fun h h' => (dd h h').2) he))
theorem smallF_yes {r : Rst} {a b c p q s : Nat} (h : (wantsF r a b c p q s).2 = true) : smallF r a b c p q s = (⟨(offR r a b c q s).near, layM (r.mark.set a 1) (wantsAll r a b c p q s), (offR r a b c q s).gone, (offR r a b c q s).count⟩, true) := by
  have h1 : (wantsF r a b c p q s).1 = wantsAll r a b c p q s := by
    unfold wantsF at h ⊢
    split
    · next hc => rw [if_pos hc] at h; cases h
    · rfl
  unfold smallF
  rw [if_pos h, h1]
  rfl
theorem small_F {n : Nat} {r : Rst} (h : RstD n r) {a b c p q s : Nat} (w : SmallI n r a b c p q s) (k : RimR n r) : (smallF r a b c p q s).2 = true ∧ RimR n (smallF r a b c p q s).1 := by
  obtain ⟨L, k, hm⟩ := k
  have hI := h.toRstI
  have sm := w.sm hI
  have hb : ∀ u' f, Rep (vR n r) (aR r) L u' f → f.vs.length ≠ 3 := fun u' f q e => by
    have := rep_count hI q
    have := w.cnt
    omega
  have key : ∃ x y z px qy oz, Per a b c p q s x y z px qy oz ∧ ¬ L z := by
    obtain ⟨u, f, k⟩ := k
    have e1 := (k.a a b).1 w.eab
    have e2 := (k.a a c).1 w.eac
    have e3 := (k.a b c).1 w.ebc
    rcases H.tri_one k.hal (hb u f k) sm.xy sm.xz sm.yz e1 e2 e3 with q' | q' | q'
    · exact ⟨b, c, a, q, s, p, .inr (.inr ⟨rfl, rfl, rfl, rfl, rfl, rfl⟩), fun e => q'.1 ((k.l _).1 e)⟩
    · exact ⟨a, c, b, p, s, q, .inr (.inl ⟨rfl, rfl, rfl, rfl, rfl, rfl⟩), fun e => q'.1 ((k.l _).1 e)⟩
    · exact ⟨a, b, c, p, q, s, .inl ⟨rfl, rfl, rfl, rfl, rfl, rfl⟩, fun e => q'.1 ((k.l _).1 e)⟩
  obtain ⟨x, y, z, px, qy, oz, hp, hz⟩ := key
  have sp := w.per hI hp
  obtain ⟨⟨lx, ly, lp, lq, lo, n1, n2, n3⟩, k'⟩ := H.small_fwd k hb sp hz
  have vL : ∀ v, L v → vR n r v := fun v hv => by
    obtain ⟨u, f, k⟩ := k
    exact (k.v v).2 (List.mem_cons_of_mem _ (H.F.fr_sub ((k.l v).1 hv)))
  have hd : p ≠ q ∧ p ≠ s ∧ q ≠ s := by
    rcases hp with ⟨rfl, rfl, rfl, rfl, rfl, rfl⟩ | ⟨rfl, rfl, rfl, rfl, rfl, rfl⟩ | ⟨rfl, rfl, rfl, rfl, rfl, rfl⟩ <;> grind
  obtain ⟨c1, c2, hw⟩ := wants_fwd hp (fun e => hz ((hm z sp.vz).1 e)) (fun e => (hm x sp.vx).2 e lx) (fun e => (hm y sp.vy).2 e ly)
  have oV : vR n r oz := by
    have e : aR r z oz := (sp.az oz).2 (.inr (.inr rfl))
    obtain ⟨hz1, hz2⟩ := aR_rng hI e
    exact ⟨hz2, hI.left hz2 (aR_sym hI _ _ e)⟩
  have nbad : (wantsAll r a b c p q s).any (badW r) = false := by
    rw [List.any_eq_false]
    intro e he
    rcases hw e he with rfl | rfl | rfl
    · unfold badW
      have : nth r.mark oz ≠ 1 := fun e => lo ((hm oz oV).1 e)
      simp [this]
    · unfold badW
      have : innB r px = false := innB_f (fun e => (hm px (vL px lp)).2 e lp) (by rw [leaf_deg hI k lp]; exact Nat.le_refl _)
      simp [this]
    · unfold badW
      have : innB r qy = false := innB_f (fun e => (hm qy (vL qy lq)).2 e lq) (by rw [leaf_deg hI k lq]; exact Nat.le_refl _)
      simp [this]
  have hyes : (wantsF r a b c p q s).2 = true := by
    unfold wantsF
    rw [if_neg]
    rintro (e | e | e | e | e | e)
    · exact hd.1 e
    · exact hd.2.1 e
    · exact hd.2.2 e
    · exact c1 e
    · exact c2 e
    · rw [nbad] at e; cases e
  rw [smallF_yes hyes]
  have hset : ∀ v, H.smV (vR n r) a a b c v ↔ H.smV (vR n r) a x y z v := fun v => by
    show (_ ∧ _) ∨ _ ↔ (_ ∧ _) ∨ _
    rcases hp with ⟨rfl, rfl, rfl, rfl, rfl, rfl⟩ | ⟨rfl, rfl, rfl, rfl, rfl, rfl⟩ | ⟨rfl, rfl, rfl, rfl, rfl, rfl⟩ <;> grind
  have hseA : ∀ v v', H.smA (aR r) a a b c p q s v v' ↔ H.smA (aR r) a x y z px qy oz v v' := fun v v' => by
    show (_ ∧ _) ∨ (_ ∧ _) ∨ (_ ∧ _) ↔ (_ ∧ _) ∨ (_ ∧ _) ∨ (_ ∧ _)
    rcases hp with ⟨rfl, rfl, rfl, rfl, rfl, rfl⟩ | ⟨rfl, rfl, rfl, rfl, rfl, rfl⟩ | ⟨rfl, rfl, rfl, rfl, rfl, rfl⟩ <;> grind
  refine ⟨rfl, _, k'.congr (fun v => ((small_vr hI w v).trans (hset v)).symm) (fun v v' => ((small_rel hI w hd v v').trans (hseA v v')).symm) (fun v => Iff.rfl), fun v hv => ?_⟩
  have hv' := ((small_vr hI w v).trans (hset v)).1 hv
  have ml := hI.toRstOk.mark
  have an : a < n := sm.vx.1
  have hlay := layM_at (wantsAll r a b c p q s) (r.mark.set a 1) v (fun e he => by
    rw [List.length_set, ml]
    rcases hw e he with rfl | rfl | rfl
    · exact ⟨oz, rfl, oV.1⟩
    · exact ⟨px, rfl, (vL px lp).1⟩
    · exact ⟨qy, rfl, (vL qy lq).1⟩)
  rw [nth_set (by rw [ml]; exact an)] at hlay
  show (nth (layM (r.mark.set a 1) (wantsAll r a b c p q s)) v = 1 → (L v ∧ v ≠ x ∧ v ≠ y ∧ v ≠ z) ∨ v = a) ∧ (nth (layM (r.mark.set a 1) (wantsAll r a b c p q s)) v = 2 → ¬ ((L v ∧ v ≠ x ∧ v ≠ y ∧ v ≠ z) ∨ v = a))
  by_cases va : v = a
  · refine ⟨fun _ => .inr va, fun e => ?_⟩
    exfalso
    rcases hlay with q' | ⟨k1, q', q''⟩
    · rw [if_pos va.symm] at q'; omega
    · have aa : v = x ∨ v = y ∨ v = z := by rw [va]; exact sp.aa
      have p1 := sp.px; have p2 := sp.py; have p3 := sp.pz; have q1 := sp.qx; have q2 := sp.qy; have q3 := sp.qz; have o1 := sp.ox; have o2 := sp.oy; have o3 := sp.oz
      rcases hw _ q' with e' | e' | e' <;> (have := congrArg Prod.fst e'; simp only [Int.ofNat_inj] at this; grind)
  · have hvV : vR n r v ∧ v ≠ x ∧ v ≠ y ∧ v ≠ z := hv'.resolve_right va
    have hmv := hm v hvV.1
    have lay : nth (layM (r.mark.set a 1) (wantsAll r a b c p q s)) v = nth r.mark v ∨ (v = oz ∧ nth (layM (r.mark.set a 1) (wantsAll r a b c p q s)) v = 2) ∨ ((v = px ∨ v = qy) ∧ nth (layM (r.mark.set a 1) (wantsAll r a b c p q s)) v = 1) := by
      rcases hlay with q' | ⟨k1, q', q''⟩
      · rw [if_neg (fun e => va e.symm)] at q'; exact .inl q'
      · rcases hw _ q' with e' | e' | e'
        · have f1 := congrArg Prod.fst e'; have f2 := congrArg Prod.snd e'
          simp only [Int.ofNat_inj] at f1 f2
          exact .inr (.inl ⟨f1, q''.trans f2⟩)
        · have f1 := congrArg Prod.fst e'; have f2 := congrArg Prod.snd e'
          simp only [Int.ofNat_inj] at f1 f2
          exact .inr (.inr ⟨.inl f1, q''.trans f2⟩)
        · have f1 := congrArg Prod.fst e'; have f2 := congrArg Prod.snd e'
          simp only [Int.ofNat_inj] at f1 f2
          exact .inr (.inr ⟨.inr f1, q''.trans f2⟩)
    rcases lay with e | ⟨e0, e⟩ | ⟨e0, e⟩
    · rw [e]
      exact ⟨fun e' => .inl ⟨hmv.1 e', hvV.2⟩, fun e' q' => by rcases q' with q' | q'; exact hmv.2 e' q'.1; exact va q'⟩
    · rw [e]
      refine ⟨fun e' => by omega, fun _ q' => ?_⟩
      rcases q' with q' | q'
      · exact lo (e0 ▸ q'.1)
      · exact va q'
    · rw [e]
      refine ⟨fun _ => .inl ⟨?_, hvV.2⟩, fun e' => by omega⟩
      rcases e0 with e0 | e0
      · rw [e0]; exact lp
      · rw [e0]; exact lq
end Go.Proofs.Ytnmocjhpbobahaa.L
namespace Go.Proofs.Ytnmocjhpbobahaa.L
open Go Go.RowKit
open Go.Proofs.Ytnmocjhpbobahaa.H (Rim Rep Wd Sm)
set_option maxRecDepth 100000
theorem one_in {r : Rst} {i2 : Int} {d : Bool} {v : Nat} {o : Int} : (nth r.mark v = 1 → (o, 1) ∈ wantOne r i2 d v o) ∧ (nth r.mark v = 2 → d = true → (o, 2) ∈ wantOne r i2 d v o) := by
  unfold wantOne
  constructor
  · intro h
    have hap : apexB r i2 v = false := decide_eq_false (by rintro (q | ⟨_, q⟩); omega; exact q h)
    rw [hap, if_neg (by rintro ⟨_, q⟩; cases q), if_pos (.inr h)]
    exact List.mem_cons_self
  · intro h hd
    have hap : apexB r i2 v = true := decide_eq_true (.inl h)
    rw [hap, if_pos ⟨hd, rfl⟩]
    exact List.mem_cons_self
theorem wants_in {r : Rst} {a b c p q s : Nat} (h2 : ¬ 1 < cnt3 r 2 a b c) {v o : Nat} (hv : (v = a ∧ o = p) ∨ (v = b ∧ o = q) ∨ (v = c ∧ o = s)) : (nth r.mark v = 1 → ((o : Int), 1) ∈ wantsAll r a b c p q s) ∧ (nth r.mark v = 2 → ((o : Int), 2) ∈ wantsAll r a b c p q s) := by
  have hd : nth r.mark v = 2 → decide (cnt3 r 2 a b c = 1 ∨ cnt3 r 1 a b c = 2) = true := fun h => decide_eq_true (by
    have c1 := ct_le r 2 a; have c2 := ct_le r 2 b; have c3 := ct_le r 2 c
    have cv := (ct_12 r v).1 h
    left
    unfold cnt3 at h2 ⊢
    rcases hv with ⟨rfl, _⟩ | ⟨rfl, _⟩ | ⟨rfl, _⟩ <;> omega)
  unfold wantsAll
  rw [List.mem_append, List.mem_append, List.mem_append, List.mem_append]
  rcases hv with ⟨rfl, rfl⟩ | ⟨rfl, rfl⟩ | ⟨rfl, rfl⟩
  · exact ⟨fun h => .inl (.inl (one_in.1 h)), fun h => .inl (.inl (one_in.2 h (hd h)))⟩
  · exact ⟨fun h => .inl (.inr (one_in.1 h)), fun h => .inl (.inr (one_in.2 h (hd h)))⟩
  · exact ⟨fun h => .inr (one_in.1 h), fun h => .inr (one_in.2 h (hd h))⟩
theorem wants_uni {r : Rst} {a b c p q s : Nat} (hd : p ≠ q ∧ p ≠ s ∧ q ≠ s) {o : Nat} {k k' : Int} (h : ((o : Int), k) ∈ wantsAll r a b c p q s) (h' : ((o : Int), k') ∈ wantsAll r a b c p q s) : k' = k := by
  obtain ⟨d1, d2, d3⟩ := hd
  unfold wantsAll at h h'
  rw [List.mem_append, List.mem_append] at h h'
  rcases h with (h | h) | h <;> rcases h' with (h' | h') | h' <;>
    (have e1 := (wantOne_mem h).1; have e2 := (wantOne_mem h').1; simp only at e1 e2)
  · rw [e1] at h h'; exact wantOne_uni h h'
  · omega
  · omega
  · omega
  · rw [e1] at h h'; exact wantOne_uni h h'
  · omega
  · omega
  · omega
  · rw [e1] at h h'; exact wantOne_uni h h'
theorem wantsAll_mem {r : Rst} {a b c p q s : Nat} {e : Int × Int} (he : e ∈ wantsAll r a b c p q s) : (e.1 = p ∨ e.1 = q ∨ e.1 = s) ∧ (e.2 = 1 ∨ e.2 = 2) := by
  unfold wantsAll at he
  rcases List.mem_append.1 he with he | he
  · rcases List.mem_append.1 he with he | he
    · exact ⟨.inl (wantOne_mem he).1, (wantOne_mem he).2⟩
    · exact ⟨.inr (.inl (wantOne_mem he).1), (wantOne_mem he).2⟩
  · exact ⟨.inr (.inr (wantOne_mem he).1), (wantOne_mem he).2⟩
theorem small_B {n : Nat} {r : Rst} (h : RstD n r) {a b c p q s : Nat} (w : SmallI n r a b c p q s) (hd : (smallF r a b c p q s).2 = true) (k : RimR n (smallF r a b c p q s).1) : RimR n r := by
  have hI := h.toRstI
  have sm := w.sm hI
  have hyes : (wantsF r a b c p q s).2 = true := by
    unfold smallF at hd
    split at hd
    · next q' => exact q'
    · cases hd
  rw [smallF_yes hyes] at k
  have hne := wants_ne hyes
  have hno : ¬ 1 < cnt3 r 2 a b c ∧ ∀ e ∈ wantsAll r a b c p q s, badW r e = false := by
    unfold wantsF at hyes
    split at hyes
    · cases hyes
    · next hc =>
      refine ⟨fun e => hc (.inr (.inr (.inr (.inl e)))), ?_⟩
      have : (wantsAll r a b c p q s).any (badW r) = false := by
        cases e : (wantsAll r a b c p q s).any (badW r) with
        | false => rfl
        | true => exact (hc (.inr (.inr (.inr (.inr (.inr e)))))).elim
      rw [List.any_eq_false] at this
      intro e he
      cases hb : badW r e with
      | false => rfl
      | true => exact (this e he hb).elim
  obtain ⟨L, k, hm⟩ := k
  have ml := hI.toRstOk.mark
  have an : a < n := sm.vx.1
  have inl : ∀ e ∈ wantsAll r a b c p q s, ∃ x : Nat, e.1 = x ∧ x < (r.mark.set a 1).length := fun e he => by
    rw [List.length_set, ml]
    rcases (wantsAll_mem he).1 with q' | q' | q'
    · exact ⟨p, q', w.pn⟩
    · exact ⟨q, q', w.qn⟩
    · exact ⟨s, q', w.sn⟩
  have hlay := fun v => layM_at (wantsAll r a b c p q s) (r.mark.set a 1) v inl
  have k1 : Rim (H.smV (vR n r) a a b c) (H.smA (aR r) a a b c p q s) L := k.congr (fun v => small_vr hI w v) (fun v v' => small_rel hI w hne v v') (fun v => Iff.rfl)
  have hm' : ∀ v, H.smV (vR n r) a a b c v → (nth (layM (r.mark.set a 1) (wantsAll r a b c p q s)) v = 1 → L v) ∧ (nth (layM (r.mark.set a 1) (wantsAll r a b c p q s)) v = 2 → ¬ L v) := fun v hv => hm v ((small_vr hI w v).2 hv)
  have p1 := sm.px; have p2 := sm.py; have p3 := sm.pz; have q1 := sm.qx; have q2 := sm.qy; have q3 := sm.qz; have o1 := sm.ox; have o2 := sm.oy; have o3 := sm.oz
  have la : L a := by
    refine (hm' a (.inr rfl)).1 ?_
    rcases hlay a with e | ⟨k', e, _⟩
    · rw [e, nth_set (by rw [ml]; exact an), if_pos rfl]
    · have := (wantsAll_mem e).1
      simp only [Int.ofNat_inj] at this
      grind
  have key : ∃ x y z px qy oz, Per a b c p q s x y z px qy oz ∧ ¬ L oz ∧ L px ∧ L qy := by
    obtain ⟨u, f, k1⟩ := k1
    obtain ⟨w0, g, hw0, e0, s0⟩ := H.up_leaf k1.hal ((k1.l a).1 la)
    have r0 := k1.sim s0
    have e1 := (k1.a a w0).2 (H.E_symm e0)
    have w0a : w0 ≠ a := fun e => hw0 (e ▸ (k1.l a).1 la)
    have nL : ¬ L w0 := fun e => hw0 ((k1.l w0).1 e)
    have hw : w0 = p ∨ w0 = q ∨ w0 = s := by
      have e1 : (aR r a w0 ∧ (a ≠ a ∧ a ≠ b ∧ a ≠ c) ∧ w0 ≠ a ∧ w0 ≠ b ∧ w0 ≠ c) ∨ (a = a ∧ (w0 = p ∨ w0 = q ∨ w0 = s)) ∨ (w0 = a ∧ (a = p ∨ a = q ∨ a = s)) := e1
      grind
    have oth : ∀ o', (o' = p ∨ o' = q ∨ o' = s) → o' ≠ w0 → L o' := fun o' ho hne' => by
      have e2 : H.smA (aR r) a a b c p q s a o' := .inr (.inl ⟨rfl, ho⟩)
      have e3 := ((H.E_first r0.hal).1 ((r0.a a o').1 e2)).resolve_left hne'
      refine (r0.l o').2 (List.mem_cons_of_mem _ ?_)
      rcases e3 with e3 | e3
      · exact List.mem_of_head? e3
      · exact List.mem_of_getLast? e3
    obtain ⟨d1, d2, d3⟩ := hne
    rcases hw with rfl | rfl | rfl
    · exact ⟨b, c, a, q, s, w0, .inr (.inr ⟨rfl, rfl, rfl, rfl, rfl, rfl⟩), nL, oth q (by grind) (by grind), oth s (by grind) (by grind)⟩
    · exact ⟨a, c, b, p, s, w0, .inr (.inl ⟨rfl, rfl, rfl, rfl, rfl, rfl⟩), nL, oth p (by grind) (by grind), oth s (by grind) (by grind)⟩
    · exact ⟨a, b, c, p, q, w0, .inl ⟨rfl, rfl, rfl, rfl, rfl, rfl⟩, nL, oth p (by grind) (by grind), oth q (by grind) (by grind)⟩
  obtain ⟨x, y, z, px, qy, oz, hp, lo, lp, lq⟩ := key
  have sp := w.per hI hp
  have hset : ∀ v, H.smV (vR n r) a a b c v ↔ H.smV (vR n r) a x y z v := fun v => by
    show (_ ∧ _) ∨ _ ↔ (_ ∧ _) ∨ _
    rcases hp with ⟨rfl, rfl, rfl, rfl, rfl, rfl⟩ | ⟨rfl, rfl, rfl, rfl, rfl, rfl⟩ | ⟨rfl, rfl, rfl, rfl, rfl, rfl⟩ <;> grind
  have hseA : ∀ v v', H.smA (aR r) a a b c p q s v v' ↔ H.smA (aR r) a x y z px qy oz v v' := fun v v' => by
    show (_ ∧ _) ∨ (_ ∧ _) ∨ (_ ∧ _) ↔ (_ ∧ _) ∨ (_ ∧ _) ∨ (_ ∧ _)
    rcases hp with ⟨rfl, rfl, rfl, rfl, rfl, rfl⟩ | ⟨rfl, rfl, rfl, rfl, rfl, rfl⟩ | ⟨rfl, rfl, rfl, rfl, rfl, rfl⟩ <;> grind
  have pq : px ≠ qy := by
    obtain ⟨d1, d2, d3⟩ := hne
    rcases hp with ⟨rfl, rfl, rfl, rfl, rfl, rfl⟩ | ⟨rfl, rfl, rfl, rfl, rfl, rfl⟩ | ⟨rfl, rfl, rfl, rfl, rfl, rfl⟩ <;> assumption
  have k2 := H.small_bwd (k1.congr hset hseA (fun v => Iff.rfl)) sp pq la lo lp lq
  have tz : (z = a ∧ oz = p) ∨ (z = b ∧ oz = q) ∨ (z = c ∧ oz = s) := by unfold Per at hp; grind
  have tx : (x = a ∧ px = p) ∨ (x = b ∧ px = q) ∨ (x = c ∧ px = s) := by unfold Per at hp; grind
  have ty : (y = a ∧ qy = p) ∨ (y = b ∧ qy = q) ∨ (y = c ∧ qy = s) := by unfold Per at hp; grind
  have oV : ∀ v o', aR r v o' → vR n r o' := fun v o' e => by
    obtain ⟨hz1, hz2⟩ := aR_rng hI e
    exact ⟨hz2, hI.left hz2 (aR_sym hI _ _ e)⟩
  have put : ∀ (o' : Nat) (k' : Int), ((o' : Int), k') ∈ wantsAll r a b c p q s → nth (layM (r.mark.set a 1) (wantsAll r a b c p q s)) o' = k' := fun o' k' e => layM_uni _ _ _ _ inl e (fun k'' e' => wants_uni hne e e')
  have outV : ∀ v o', aR r v o' → o' ≠ x → o' ≠ y → o' ≠ z → H.smV (vR n r) a a b c o' := fun v o' e e1 e2 e3 => (hset o').2 (.inl ⟨oV v o' e, e1, e2, e3⟩)
  refine ⟨_, k2, fun v hv => ?_⟩
  by_cases vz : v = z
  · subst vz
    refine ⟨fun e => ?_, fun _ q' => ?_⟩
    · exact (lo ((hm' oz (outV _ _ ((sp.az oz).2 (.inr (.inr rfl))) sp.ox sp.oy sp.oz)).1 (put _ _ ((wants_in hno.1 tz).1 e)))).elim
    · rcases q' with ⟨q', q''⟩ | q' | q'
      · obtain ⟨u, f, k1⟩ := k1
        have hV := (hset v).1 ((k1.v v).2 (List.mem_cons_of_mem _ (H.F.fr_sub ((k1.l v).1 q'))))
        rcases hV with hV | hV
        · exact hV.2.2.2 rfl
        · exact q'' hV
      · exact sp.xz q'.symm
      · exact sp.yz q'.symm
  by_cases vx : v = x
  · subst vx
    exact ⟨fun _ => .inr (.inl rfl), fun e => ((hm' px (outV _ _ ((sp.ax px).2 (.inr (.inr rfl))) sp.px sp.py sp.pz)).2 (put _ _ ((wants_in hno.1 tx).2 e)) lp).elim⟩
  by_cases vy : v = y
  · subst vy
    exact ⟨fun _ => .inr (.inr rfl), fun e => ((hm' qy (outV _ _ ((sp.ay qy).2 (.inr (.inr rfl))) sp.qx sp.qy sp.qz)).2 (put _ _ ((wants_in hno.1 ty).2 e)) lq).elim⟩
  have va : v ≠ a := by have := sp.aa; grind
  have hmv := hm' v ((hset v).2 (.inl ⟨hv, vx, vy, vz⟩))
  rcases hlay v with e | ⟨k', e, e'⟩
  · rw [e, nth_set (by rw [ml]; exact an), if_neg (fun q' => va q'.symm)] at hmv
    exact ⟨fun q' => .inl ⟨hmv.1 q', va⟩, fun q' q'' => by
      rcases q'' with q'' | q'' | q''
      · exact hmv.2 q' q''.1
      · exact vx q''
      · exact vy q''⟩
  · have hb := hno.2 _ e
    unfold badW at hb
    simp only [Int.toNat_natCast, Bool.or_eq_false_iff, Bool.and_eq_false_iff] at hb
    rw [e'] at hmv
    rcases (wantsAll_mem e).2 with e2 | e2
    · simp only at e2
      subst e2
      refine ⟨fun _ => .inl ⟨hmv.1 rfl, va⟩, fun q' => ?_⟩
      have : innB r v = true := by unfold innB; exact decide_eq_true (.inl q')
      rcases hb.2 with hb | hb
      · simp at hb
      · rw [this] at hb; cases hb
    · simp only at e2
      subst e2
      refine ⟨fun q' => ?_, fun _ q'' => ?_⟩
      · have := of_decide_eq_false hb.1
        exact (this ⟨rfl, q'⟩).elim
      · rcases q'' with q'' | q'' | q''
        · exact hmv.2 rfl q''.1
        · exact vx q''
        · exact vy q''
/-! ### any cut -/
theorem do_F {n : Nat} {r : Rst} (h : RstD n r) {a b c : Nat} {p q s : Int} (k : CutI n r a b c p q s) (hr : RimR n r) : (doF r ((a : Int), (b : Int), (c : Int), p, q, s)).2 = true ∧ RimR n (doF r ((a : Int), (b : Int), (c : Int), p, q, s)).1 := by
  rcases cut_kinds h.toRstI k with ⟨p', q', s', rfl, rfl, rfl, w⟩ | ⟨q', s', rfl, rfl, rfl, w⟩ | ⟨p', s', rfl, rfl, rfl, w⟩ | ⟨p', q', rfl, rfl, rfl, w⟩
  · rw [doF_small]; exact small_F h w hr
  · rw [doF_wide' r _ _ _ _ _ _ (by omega), wideC_0]; exact wide_F h w hr
  · rw [doF_wide' r _ _ _ _ _ _ (by omega), wideC_1]; exact wide_F h w hr
  · rw [doF_wide' r _ _ _ _ _ _ (by omega), wideC_2]; exact wide_F h w hr
theorem do_B {n : Nat} {r : Rst} (h : RstD n r) {a b c : Nat} {p q s : Int} (k : CutI n r a b c p q s) (hd : (doF r ((a : Int), (b : Int), (c : Int), p, q, s)).2 = true) (hr : RimR n (doF r ((a : Int), (b : Int), (c : Int), p, q, s)).1) : RimR n r := by
  rcases cut_kinds h.toRstI k with ⟨p', q', s', rfl, rfl, rfl, w⟩ | ⟨q', s', rfl, rfl, rfl, w⟩ | ⟨p', s', rfl, rfl, rfl, w⟩ | ⟨p', q', rfl, rfl, rfl, w⟩
  · rw [doF_small] at hd hr; exact small_B h w hd hr
  · rw [doF_wide' r _ _ _ _ _ _ (by omega), wideC_0] at hd hr; exact wide_B h w hd hr
  · rw [doF_wide' r _ _ _ _ _ _ (by omega), wideC_1] at hd hr; exact wide_B h w hd hr
  · rw [doF_wide' r _ _ _ _ _ _ (by omega), wideC_2] at hd hr; exact wide_B h w hd hr
end Go.Proofs.Ytnmocjhpbobahaa.L
namespace Go.Proofs.Ytnmocjhpbobahaa.L
open Go Go.RowKit
open Go.Proofs.Ytnmocjhpbobahaa.H (Rim Rep Wd Sm)
set_option maxRecDepth 100000
theorem least_at {n : Nat} {r : Rst} (h : RstI n r) (h4 : 4 < r.count) {a b c : Nat} (ab : a < b) (bc : b < c) (eab : aR r a b) (eac : aR r a c) (ebc : aR r b c) (two : 2 ≤ isT r a + isT r b + isT r c) : leastF r ≠ none := by
  intro e
  have eab : (b : Int) ∈ nthR r.near a := eab
  have eac : (c : Int) ∈ nthR r.near a := eac
  have ebc : (c : Int) ∈ nthR r.near b := ebc
  have ha : a < n := (aR_rng h eab).1
  unfold leastF at e
  rw [List.findSome?_eq_none_iff] at e
  have e := e a (by rw [List.mem_range, h.near]; exact ha)
  unfold leastA at e
  rw [List.findSome?_eq_none_iff] at e
  have e := e _ eab
  unfold leastB at e
  rw [if_neg (by omega), List.findSome?_eq_none_iff, Int.toNat_natCast] at e
  have e := e _ ebc
  unfold leastC at e
  have hc : (cutF r a b c).2 = true := by
    unfold cutF
    rw [if_neg (by rintro (q | q | q | q); omega; exact q eab; exact q eac; exact q ebc)]
    exact decide_eq_true two
  rw [Int.toNat_natCast, if_pos ⟨by omega, eac⟩, if_pos hc] at e
  cases e
theorem isT_3 {r : Rst} {v : Nat} (h : deg r v = 3) : isT r v = 1 := isT_eq h
theorem isT_0 (r : Rst) (v : Nat) : 0 ≤ isT r v := by unfold isT; split <;> omega
theorem least_of {n : Nat} {r : Rst} (h : RstI n r) (h4 : 4 < r.count) {w x y : Nat} (wx : w ≠ x) (wy : w ≠ y) (xy : x ≠ y) (ex : aR r w x) (ey : aR r w y) (exy : aR r x y) (dx : deg r x = 3) (dy : deg r y = 3) : leastF r ≠ none := by
  have tx := isT_3 dx; have ty := isT_3 dy; have tw := isT_0 r w
  have ex' := aR_sym h _ _ ex; have ey' := aR_sym h _ _ ey; have exy' := aR_sym h _ _ exy
  rcases (by omega : (w < x ∧ x < y) ∨ (w < y ∧ y < x) ∨ (x < w ∧ w < y) ∨ (x < y ∧ y < w) ∨ (y < w ∧ w < x) ∨ (y < x ∧ x < w)) with ⟨q1, q2⟩ | ⟨q1, q2⟩ | ⟨q1, q2⟩ | ⟨q1, q2⟩ | ⟨q1, q2⟩ | ⟨q1, q2⟩
  · exact least_at h h4 q1 q2 ex ey exy (by omega)
  · exact least_at h h4 q1 q2 ey ex exy' (by omega)
  · exact least_at h h4 q1 q2 ex' exy ey (by omega)
  · exact least_at h h4 q1 q2 exy ex' ey' (by omega)
  · exact least_at h h4 q1 q2 ey' exy' ex (by omega)
  · exact least_at h h4 q1 q2 exy' ey' ex' (by omega)
theorem rim_least {n : Nat} {r : Rst} (h : RstI n r) (h4 : 4 < r.count) (k : RimR n r) : leastF r ≠ none := by
  obtain ⟨L, ⟨u, f, k⟩, _⟩ := k
  obtain ⟨w, x, y, g, s⟩ := H.has_pair k.hal
  have k' := k.sim s
  have nd := k'.hal.nd
  simp only [H.F.vs, List.nodup_cons, List.mem_cons, not_or] at nd
  obtain ⟨⟨wx, wy, wg⟩, ⟨xy, xg⟩, yg, _⟩ := nd
  have lx : L x := (k'.l x).2 List.mem_cons_self
  have ly : L y := (k'.l y).2 (List.mem_cons_of_mem _ List.mem_cons_self)
  have e1 : aR r w x := (k'.a w x).2 ((H.E_root k'.hal).2 List.mem_cons_self)
  have e2 : aR r w y := (k'.a w y).2 ((H.E_root k'.hal).2 (List.mem_cons_of_mem _ List.mem_cons_self))
  have e3 : aR r x y := (k'.a x y).2 ((H.E_first k'.hal).2 (.inr (.inl rfl)))
  exact least_of h h4 wx wy xy e1 e2 e3 (leaf_deg h ⟨u, f, k⟩ lx) (leaf_deg h ⟨u, f, k⟩ ly)
/-! ### four left -/
/-- Those that are left. -/
def leftL (r : Rst) (i : Nat) : List Nat := (List.range i).filter fun v => !(nthB r.gone v)
theorem leftL_succ (r : Rst) (i : Nat) : leftL r (i + 1) = leftL r i ++ (if nthB r.gone i = true then [] else [i]) := by
  unfold leftL
  rw [List.range_succ, List.filter_append]
  congr 1
  cases hb : nthB r.gone i <;> simp [hb]
theorem edgE_sum (r : Rst) : ∀ i, edgE r i = ((leftL r i).map fun v => (deg r v : Int)).sum
  | 0 => rfl
  | i + 1 => by
    rw [leftL_succ, List.map_append, List.sum_append, edgE, edgE_sum r i]
    split <;> simp
theorem cntM_sum (r : Rst) (m : Int) : ∀ i, cntM r m i = ((leftL r i).map fun v => if nth r.mark v = m then (1 : Int) else 0).sum
  | 0 => rfl
  | i + 1 => by
    rw [leftL_succ, List.map_append, List.sum_append, cntM, cntM_sum r m i]
    split
    · simp
    · split <;> simp [*]
structure Four (n : Nat) (r : Rst) (a b c d : Nat) : Prop where
  nd : [a, b, c, d].Nodup
  v : ∀ v, vR n r v ↔ v = a ∨ v = b ∨ v = c ∨ v = d
  e : ∀ v w, aR r v w ↔ vR n r v ∧ vR n r w ∧ v ≠ w
  s : edgE r n = 12
  m : ∀ m, cntM r m n = (if nth r.mark a = m then 1 else 0) + (if nth r.mark b = m then 1 else 0) + (if nth r.mark c = m then 1 else 0) + (if nth r.mark d = m then 1 else 0)
theorem aR_ne {n : Nat} {r : Rst} (h : RstI n r) {v w : Nat} (q : aR r v w) : v ≠ w := by
  rintro rfl
  exact h.irr v (aR_rng h q).1 q
theorem aR_vR {n : Nat} {r : Rst} (h : RstI n r) {v w : Nat} (q : aR r v w) : vR n r v ∧ vR n r w := by
  obtain ⟨h1, h2⟩ := aR_rng h q
  exact ⟨⟨h1, h.left h1 q⟩, ⟨h2, h.left h2 (aR_sym h _ _ q)⟩⟩
/-- Whoever is left beside three others that are left alone, is beside each of them. -/
theorem full_row {n : Nat} {r : Rst} (h : RstD n r) {v x y z : Nat} (hv : vR n r v) (hl : ∀ w, vR n r w → w = v ∨ w = x ∨ w = y ∨ w = z) : deg r v = 3 ∧ aR r v x ∧ aR r v y ∧ aR r v z := by
  have h3 := h.d3 v hv.1 hv.2
  have hnd := h.toRstI.toRstOk.nodup hv.1
  have hs : ∀ t ∈ nthR r.near v, t ∈ [(x : Int), (y : Int), (z : Int)] := fun t ht => by
    have := h.toRstI.rng v hv.1 t ht
    obtain ⟨w, rfl⟩ : ∃ w : Nat, t = (w : Int) := ⟨t.toNat, by omega⟩
    have ht' : aR r v w := ht
    have hne := aR_ne h.toRstI ht'
    rcases hl w (aR_vR h.toRstI ht').2 with e | rfl | rfl | rfl
    · exact (hne e.symm).elim
    · simp
    · simp
    · simp
  have hle : (nthR r.near v).length ≤ 3 := hnd.length_le_of_subset (l₂ := [(x : Int), (y : Int), (z : Int)]) hs
  have hin : ∀ t ∈ [(x : Int), (y : Int), (z : Int)], t ∈ nthR r.near v := fun t ht => Classical.byContradiction fun q => by
    have hn2 : (t :: nthR r.near v).Nodup := List.nodup_cons.2 ⟨q, hnd⟩
    have : (t :: nthR r.near v).length ≤ 3 := hn2.length_le_of_subset (l₂ := [(x : Int), (y : Int), (z : Int)]) (fun t' ht' => by
      rcases List.mem_cons.1 ht' with rfl | ht'
      · exact ht
      · exact hs t' ht')
    rw [List.length_cons] at this
    unfold deg at h3
    omega
  refine ⟨by unfold deg at h3 ⊢; omega, hin _ (by simp), hin _ (by simp), hin _ (by simp)⟩
theorem four_left {n : Nat} {r : Rst} (h : RstD n r) (h4 : r.count = 4) : ∃ a b c d, Four n r a b c d := by
  have hlen : (leftL r n).length = 4 := by
    have := leftN_filter r.gone n
    have := h.toRstI.cnt
    unfold leftL
    omega
  have hnd : (leftL r n).Nodup := (List.nodup_range).sublist List.filter_sublist
  have hm : ∀ v, vR n r v ↔ v ∈ leftL r n := fun v => by
    unfold leftL
    rw [List.mem_filter, List.mem_range]
    simp
  have hs := edgE_sum r n
  have hc := fun m => cntM_sum r m n
  generalize leftL r n = l at *
  match l, hlen with
  | [a, b, c, d], _ =>
    have hv : ∀ v, vR n r v ↔ v = a ∨ v = b ∨ v = c ∨ v = d := fun v => by rw [hm]; simp
    have ra := full_row h (v := a) (x := b) (y := c) (z := d) ((hv a).2 (.inl rfl)) (fun w hw => (hv w).1 hw)
    have rb := full_row h (v := b) (x := a) (y := c) (z := d) ((hv b).2 (.inr (.inl rfl))) (fun w hw => by have := (hv w).1 hw; omega)
    have rc := full_row h (v := c) (x := a) (y := b) (z := d) ((hv c).2 (.inr (.inr (.inl rfl)))) (fun w hw => by have := (hv w).1 hw; omega)
    have rd := full_row h (v := d) (x := a) (y := b) (z := c) ((hv d).2 (.inr (.inr (.inr rfl)))) (fun w hw => by have := (hv w).1 hw; omega)
    refine ⟨a, b, c, d, hnd, hv, fun v w => ⟨fun q => ⟨(aR_vR h.toRstI q).1, (aR_vR h.toRstI q).2, aR_ne h.toRstI q⟩, fun ⟨q1, q2, q3⟩ => ?_⟩, ?_, fun m => ?_⟩
    · rw [hv] at q1 q2
      rcases q1 with rfl | rfl | rfl | rfl <;> rcases q2 with rfl | rfl | rfl | rfl <;> first | exact (q3 rfl).elim | exact ra.2.1 | exact ra.2.2.1 | exact ra.2.2.2 | exact rb.2.1 | exact rb.2.2.1 | exact rb.2.2.2 | exact rc.2.1 | exact rc.2.2.1 | exact rc.2.2.2 | exact rd.2.1 | exact rd.2.2.1 | exact rd.2.2.2
    · rw [hs]
      simp only [List.map_cons, List.map_nil, List.sum_cons, List.sum_nil, ra.1, rb.1, rc.1, rd.1]
      omega
    · rw [hc m]
      simp only [List.map_cons, List.map_nil, List.sum_cons, List.sum_nil]
      omega
theorem four_is {n : Nat} {r : Rst} (h : RstD n r) (h4 : r.count = 4) : isFb r = true := by
  obtain ⟨a, b, c, d, k⟩ := four_left h h4
  unfold isFb
  exact decide_eq_true ⟨h4, by rw [h.toRstI.near]; exact k.s⟩
theorem row3 {x y z v w : Nat} : H.nx [x, y, z] v w ↔ (v = x ∧ w = y) ∨ (v = y ∧ w = z) ∨ (v = z ∧ w = x) := by
  have h0 : ∀ v w, ¬ H.con [] v w := by rintro v w ⟨a, b, e⟩; simp at e
  rw [H.nx_cons, H.con_cons, H.con_cons, H.con_cons]
  have := h0 v w
  simp only [List.head?_cons, List.head?_nil, List.getLast?_cons_cons, List.getLast?_singleton, Option.some.injEq]
  grind
theorem Four.rim {n : Nat} {r : Rst} {u x y z : Nat} (k : Four n r u x y z) (hu : nth r.mark u ≠ 1) (hx : nth r.mark x ≠ 2) (hy : nth r.mark y ≠ 2) (hz : nth r.mark z ≠ 2) : RimR n r := by
  have nd := k.nd
  simp only [List.nodup_cons, List.mem_cons, List.not_mem_nil, or_false, not_or, not_false_eq_true, List.nodup_nil, and_true] at nd
  refine ⟨fun v => v ∈ [x, y, z], ⟨u, .leaf x (.leaf y (.leaf z .nil)), ⟨by simp [H.F.len], trivial, k.nd⟩, fun v => ?_, fun v w => ?_, fun v => Iff.rfl⟩, fun v hv => ?_⟩
  · rw [k.v]; simp [H.F.vs]
  · rw [k.e, k.v, k.v]
    unfold H.E
    simp only [H.F.es, H.F.fr, row3, List.mem_cons, Prod.mk.injEq, List.not_mem_nil, or_false]
    obtain ⟨⟨n1, n2, n3⟩, ⟨n4, n5⟩, n6⟩ := nd
    constructor
    · rintro ⟨hv, hw, ne⟩
      rcases hv with rfl | rfl | rfl | rfl <;> rcases hw with rfl | rfl | rfl | rfl <;> first | exact (ne rfl).elim | simp
    · rintro ((⟨rfl, rfl⟩ | ⟨rfl, rfl⟩ | ⟨rfl, rfl⟩) | (⟨rfl, rfl⟩ | ⟨rfl, rfl⟩ | ⟨rfl, rfl⟩) | (⟨rfl, rfl⟩ | ⟨rfl, rfl⟩ | ⟨rfl, rfl⟩) | ⟨rfl, rfl⟩ | ⟨rfl, rfl⟩ | ⟨rfl, rfl⟩) <;> (refine ⟨by simp, by simp, ?_⟩; omega)
  · simp only [List.mem_cons, List.not_mem_nil, or_false]
    rcases (k.v v).1 hv with rfl | rfl | rfl | rfl <;> grind
theorem Four.perm {n : Nat} {r : Rst} {a b c d : Nat} (k : Four n r a b c d) : Four n r b a c d ∧ Four n r c a b d ∧ Four n r d a b c := by
  have nd := k.nd
  simp only [List.nodup_cons, List.mem_cons, List.not_mem_nil, or_false, not_or, not_false_eq_true, List.nodup_nil, and_true] at nd
  refine ⟨⟨?_, fun v => by rw [k.v]; omega, k.e, k.s, fun m => by rw [k.m]; omega⟩, ⟨?_, fun v => by rw [k.v]; omega, k.e, k.s, fun m => by rw [k.m]; omega⟩, ⟨?_, fun v => by rw [k.v]; omega, k.e, k.s, fun m => by rw [k.m]; omega⟩⟩ <;>
    (simp only [List.nodup_cons, List.mem_cons, List.not_mem_nil, or_false, not_or, not_false_eq_true, List.nodup_nil, and_true]; omega)
theorem fit_rim {n : Nat} {r : Rst} (h : RstD n r) (h4 : r.count = 4) (hf : fitFb r = true) : RimR n r := by
  obtain ⟨a, b, c, d, k⟩ := four_left h h4
  obtain ⟨kb, kc, kd⟩ := k.perm
  unfold fitFb at hf
  rw [h.toRstI.near] at hf
  obtain ⟨f2, f1⟩ := of_decide_eq_true hf
  rw [k.m] at f1 f2
  have key : (nth r.mark a ≠ 1 ∧ nth r.mark b ≠ 2 ∧ nth r.mark c ≠ 2 ∧ nth r.mark d ≠ 2) ∨ (nth r.mark b ≠ 1 ∧ nth r.mark a ≠ 2 ∧ nth r.mark c ≠ 2 ∧ nth r.mark d ≠ 2) ∨ (nth r.mark c ≠ 1 ∧ nth r.mark a ≠ 2 ∧ nth r.mark b ≠ 2 ∧ nth r.mark d ≠ 2) ∨ (nth r.mark d ≠ 1 ∧ nth r.mark a ≠ 2 ∧ nth r.mark b ≠ 2 ∧ nth r.mark c ≠ 2) := by
    split at f1 <;> split at f2 <;> omega
  rcases key with ⟨q1, q2, q3, q4⟩ | ⟨q1, q2, q3, q4⟩ | ⟨q1, q2, q3, q4⟩ | ⟨q1, q2, q3, q4⟩
  · exact k.rim q1 q2 q3 q4
  · exact kb.rim q1 q2 q3 q4
  · exact kc.rim q1 q2 q3 q4
  · exact kd.rim q1 q2 q3 q4
theorem rim_fit {n : Nat} {r : Rst} (h : RstD n r) (h4 : r.count = 4) (k : RimR n r) : fitFb r = true := by
  obtain ⟨a, b, c, d, k4⟩ := four_left h h4
  obtain ⟨L, ⟨u, f, k⟩, hm⟩ := k
  have hl := rep_count h.toRstI k
  have hlf := H.F.len_fr k.hal.ok
  have h3 := k.hal.len
  have hvf : f.vs = f.fr := H.len_flat k.hal.ok (by
    have : f.fr.length ≤ f.vs.length := (H.fr_nodup (List.nodup_cons.1 k.hal.nd).2).length_le_of_subset (fun _ q => H.F.fr_sub q)
    omega)
  have hu : ∀ v, vR n r v → (L v ↔ v ≠ u) := fun v hv => by
    rw [k.l, ← hvf]
    have := (k.v v).1 hv
    have nu := (List.nodup_cons.1 k.hal.nd).1
    constructor
    · rintro q rfl; exact nu q
    · intro q; exact (List.mem_cons.1 this).resolve_left q
  have hmm : ∀ v, vR n r v → (nth r.mark v = 1 → v ≠ u) ∧ (nth r.mark v = 2 → v = u) := fun v hv => ⟨fun q => (hu v hv).1 ((hm v hv).1 q), fun q => Classical.byContradiction fun q' => (hm v hv).2 q ((hu v hv).2 q')⟩
  have hur : u = a ∨ u = b ∨ u = c ∨ u = d := (k4.v u).1 ((k.v u).2 List.mem_cons_self)
  have ma := hmm a ((k4.v a).2 (.inl rfl)); have mb := hmm b ((k4.v b).2 (.inr (.inl rfl))); have mc := hmm c ((k4.v c).2 (.inr (.inr (.inl rfl)))); have md := hmm d ((k4.v d).2 (.inr (.inr (.inr rfl))))
  have nd := k4.nd
  simp only [List.nodup_cons, List.mem_cons, List.not_mem_nil, or_false, not_or, not_false_eq_true, List.nodup_nil, and_true] at nd
  unfold fitFb
  rw [h.toRstI.near, k4.m, k4.m]
  refine decide_eq_true ⟨?_, ?_⟩
  · rcases hur with rfl | rfl | rfl | rfl <;> grind
  · rcases hur with rfl | rfl | rfl | rfl <;> grind
theorem rim_four {n : Nat} {r : Rst} (h : RstI n r) (k : RimR n r) : 4 ≤ r.count := by
  obtain ⟨L, ⟨u, f, k⟩, _⟩ := k
  have hl := rep_count h k
  have hlf := H.F.len_fr k.hal.ok
  have h3 := k.hal.len
  have : f.fr.length ≤ f.vs.length := (H.fr_nodup (List.nodup_cons.1 k.hal.nd).2).length_le_of_subset (fun _ q => H.F.fr_sub q)
  omega
end Go.Proofs.Ytnmocjhpbobahaa.L
