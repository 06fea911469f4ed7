/- What graph.near's closure gives: the neighbours in the order of the edges, for whatever loop body. -/
import Derived.RangeFuncNested
import Derived.RangeFuncBound
import Derived.RangeFuncCalls
import Derived.RangeFuncLeaves
import Derived.RangeFuncBox
import Derived.Shelf.Abstract
import Derived.Shelf.RegionOpen
import Derived.WalkKit
import Derived.OwnWalkIn
import Derived.TacticsInMore
import Derived.LoopNIn
import Derived.LoopIn
import Derived.Outline
import Derived.Lib.Hide
import Derived.Test.YtngglgkemonibaaQ29
set_option linter.unusedVariables false
set_option linter.unusedSimpArgs false
set_option linter.unnecessarySimpa false
namespace Go.Proofs.Ytngglgkemonibaa.P
open Go.RowKit Go.Shelf Go.Proofs.YtngglgkemonibaaW.PrintWords
set_option linter.unusedVariables false
set_option linter.unusedSimpArgs false

attribute [local go_sem] Oper.semAt_some

/-- the neighbours of v that one edge tells -/
def nearOne (v : Int) (e : S46) : List Int := (if e.f1 = v then [e.f0] else []) ++ (if e.f0 = v then [e.f1] else [])
/-- what comes: up to the first edge beyond v -/
def nearSeq (v : Int) (es : List S46) : List Int := (es.takeWhile fun e => decide (e.f0 ≤ v)).flatMap (nearOne v)

theorem nearSeq_take {v : Int} {es : List S46} {k : Nat} (h : ∀ j, j < k → (rd_T46 es (j : Int)).f0 ≤ v) (hk : k ≤ es.length) :
    (∃ rest, nearSeq v es = (es.take k).flatMap (nearOne v) ++ rest) ∧ (k = es.length → nearSeq v es = (es.take k).flatMap (nearOne v)) ∧
    (k < es.length → v < (rd_T46 es (k : Int)).f0 → nearSeq v es = (es.take k).flatMap (nearOne v)) := by
  have key : es.takeWhile (fun e => decide (e.f0 ≤ v)) = es.take k ++ (es.drop k).takeWhile (fun e => decide (e.f0 ≤ v)) := by
    have h2 : ∀ x ∈ es.take k, decide (x.f0 ≤ v) = true := by
      intro x hx
      obtain ⟨j, hj, rfl⟩ := List.mem_iff_getElem.1 hx
      have hj' : j < k := by rw [List.length_take] at hj; omega
      have := h j hj'
      simp only [rd_T46, Int.toNat_natCast] at this
      rw [List.getElem_take]
      rw [List.getD_eq_getElem?_getD, List.getElem?_eq_getElem (by omega)] at this
      simpa using this
    conv => lhs; rw [← List.take_append_drop k es]
    rw [List.takeWhile_append_of_pos h2]
  unfold nearSeq
  rw [key, List.flatMap_append]
  refine ⟨⟨_, rfl⟩, fun e => ?_, fun hlt hv => ?_⟩
  · subst e; simp
  · rw [List.drop_eq_getElem_cons hlt, List.takeWhile_cons]
    simp only [rd_T46, Int.toNat_natCast, List.getD_eq_getElem?_getD, List.getElem?_eq_getElem hlt, Option.getD_some] at hv
    rw [if_neg (by simpa using hv)]
    simp

theorem nearSeq_succ (v : Int) (es : List S46) (k : Nat) (hk : k < es.length) :
    (es.take (k + 1)).flatMap (nearOne v) = (es.take k).flatMap (nearOne v) ++ nearOne v (rd_T46 es (k : Int)) := by
  rw [List.take_succ_eq_append_getElem hk, List.flatMap_append]
  simp [rd_T46, List.getD_eq_getElem?_getD, List.getElem?_eq_getElem hk]

theorem nearOne_len {v : Int} {e : S46} (h : e.f0 ≠ e.f1) : (nearOne v e).length ≤ 1 := by
  unfold nearOne
  by_cases h1 : e.f1 = v <;> by_cases h0 : e.f0 = v
  · exact absurd (h0.trans h1.symm) h
  all_goals simp [h1, h0]
theorem near_len (v : Int) : ∀ (es : List S46), (∀ e ∈ es, e.f0 ≠ e.f1) → (es.flatMap (nearOne v)).length ≤ es.length
  | [], _ => by simp
  | e :: es, h => by
    have := near_len v es (fun x hx => h x (List.mem_cons_of_mem _ hx))
    have h1 := nearOne_len (v := v) (h e List.mem_cons_self)
    simp only [List.flatMap_cons, List.length_append, List.length_cons]; omega

/-- what a round must keep: what lay below n₀, the edges' boxes, and the block Bv -/
structure KpN (n₀ Bv : Nat) (W W' : World) : Prop where
  below : Below n₀ W W'
  edges : ∀ (i : Nat) (cs : Array Value), W.heap[i]? = some (.cells cs 46 (0, 0)) → W'.heap[i]? = some (.cells cs 46 (0, 0))
  box : W'.heap[Bv]? = W.heap[Bv]?
theorem KpN.trans {n₀ Bv : Nat} {A B C : World} (h : KpN n₀ Bv A B) (k : KpN n₀ Bv B C) : KpN n₀ Bv A C :=
  ⟨h.below.trans k.below, fun i cs hi => k.edges i cs (h.edges i cs hi), k.box.trans h.box⟩
theorem KpN.refl (n₀ Bv : Nat) (W : World) : KpN n₀ Bv W W := ⟨Below.refl _ _, fun _ _ h => h, rfl⟩
theorem KpN.put {n₀ Bv : Nat} {w : World} (hn : n₀ ≤ w.heap.size) (hv : Bv < w.heap.size) (W : World) (l : Nat) (o o' : Obj) (hl : w.heap.size ≤ l) (h : W.heap[l]? = some o) (hc : o.isCells = false) (hw : o.isWalk = false) : KpN n₀ Bv W (W.putObj l o') :=
  ⟨belowK_b hn W l o o' hl h hc hw, fun i cs hi => by
    have hne : i ≠ l := fun e => by subst e; rw [h] at hi; cases hi; simp [Obj.isCells] at hc
    exact (World.putObj_heap_other hne).trans hi, World.putObj_heap_other (by omega)⟩
theorem KpN.alloc {n₀ Bv : Nat} {W : World} (hn : n₀ ≤ W.heap.size) (hv : Bv < W.heap.size) (o : Obj) : KpN n₀ Bv W (W.alloc o) :=
  ⟨(Below.refl _ _).alloc hn o, fun i cs hi => (Below.heap_alloc _ _ i (Array.getElem?_eq_some_iff.1 hi).1).trans hi, Below.heap_alloc _ _ Bv hv⟩

theorem box_cells {W : World} {b : Nat} {cs : Array Value} {t : TypeId} (h : W.heap[b]? = some (.cells cs t (0, 0))) (i : Nat) : W.cell? ⟨b, i, none⟩ = cs[i]? := blk_cell h i

set_option maxRecDepth 100000 in
set_option maxHeartbeats 8000000 in
/-- the closure, for every loop body that keeps its word -/
theorem near1_in (F : Fence) (n : Nat) (h7 : F.fn 61) (hro : F.round = none) (hn : 1 ≤ n) (l Bg Bv n₀ cap : Nat) (v : Int) (A : Option Addr) (es : List S46) (hne : ∀ e ∈ es, e.f0 ≠ e.f1)
    (hb : ∀ ad, A = some ad → 0 < es.length → ad.block < n₀) (J Jx : List Int → World → Prop) (W : World) (hn0 : n₀ ≤ W.heap.size) (hBv : Bv < W.heap.size)
    (hJ : AbidesFrom W.heap.size J)
    (hY : ∀ pre x W, J pre W → pre.length < es.length → YieldAt F (n - 1) Try.prog l #[.int .i64 x] W fun e W' =>
      (e = .returned (.bool true) ∧ J (pre ++ [x]) W' ∧ KpN n₀ Bv W W') ∨ (e = .returned (.bool false) ∧ Jx (pre ++ [x]) W'))
    (hcg : W.cell? ⟨Bg, 1, none⟩ = some (.slice A es.length cap)) (hcv : W.heap[Bv]? = some (.cells #[.int .i64 v] 3 (0, 0)))
    (hC : Kd.C k46 W A es.length es) (h0 : J [] W) :
    CallsIn F n Try.prog 61 #[.func (.yield l) #[] #[], .pointer (some ⟨Bg, 0, none⟩), .pointer (some ⟨Bv, 0, none⟩)] W fun e W' => (∃ u, e = .returned u) ∧
      ((∃ ys, ys = nearSeq v es ∧ J ys W') ∨ (∃ pre, pre <+: nearSeq v es ∧ Jx pre W')) := by
  refine callsIn_of_wp Try.func61 rfl h7 ?_ hro
  simp only [Try.ntmps61, List.size_toArray, List.length_cons, List.length_nil, Nat.reduceAdd, Nat.reduceSub, Array.replicate_succ, Array.replicate_zero, List.push_toArray, List.append_toArray, List.nil_append, List.cons_append]
  have hmax : es.length ≤ 9223372036854775807 := hC.2.1
  gi_wp2
  gi_loopw [9] (fun i wr => ∃ k : Nat, k ≤ es.length ∧ i = .int .i64 k ∧ (∀ j : Nat, j < k → (rd_T46 es (j : Int)).f0 ≤ v) ∧ J ((es.take k).flatMap (nearOne v)) wr ∧ KpN n₀ Bv W wr)
    (fun i _ => es.length - (intOf i).toNat)
  case atStart => exact ⟨0, Nat.zero_le _, rfl, by omega, h0, KpN.refl _ _ _⟩
  case round =>
    obtain ⟨k, hk, rfl, hle, hJs, hnx⟩ := hrel
    by_cases hlt : k < es.length
    · obtain ⟨ad, rfl, hc0, hc1⟩ := at_T46 hC (k : Int) (by omega) (by omega)
      rw [Int.toNat_natCast] at hc0 hc1
      have hb := hb ad rfl (by omega)
      have hc0' : wr.cell? (ad.add (k * 2)) = some (.int .i64 (rd_T46 es (k : Int)).f0) := (hnx.below.cell (by rw [add_block]; exact hb)).trans hc0
      have hc1' : wr.cell? ⟨(ad.add (k * 2)).block, (ad.add (k * 2)).off + 1, none⟩ = some (.int .i64 (rd_T46 es (k : Int)).f1) := (hnx.below.cell (by show (ad.add (k * 2)).block < n₀; rw [add_block]; exact hb)).trans hc1
      have hbv' : wr.heap[Bv]? = some (.cells #[.int .i64 v] 3 (0, 0)) := hnx.box.trans hcv
      clear hc0 hc1
      have hmem : rd_T46 es (k : Int) ∈ es := by
        simp only [rd_T46, Int.toNat_natCast, List.getD_eq_getElem?_getD, List.getElem?_eq_getElem hlt, Option.getD_some]; exact List.getElem_mem hlt
      have hsz : n₀ ≤ wr.heap.size := Nat.le_trans hn0 hnx.below.size
      have hszW : W.heap.size ≤ wr.heap.size := hnx.below.size
      have hpl : ((es.take k).flatMap (nearOne v)).length < es.length := by
        have := near_len v (es.take k) (fun x hx => hne x (List.mem_of_mem_take hx))
        rw [List.length_take] at this; omega
      have HS := Lib.hid (nearSeq_succ v es k hlt)
      have HN := Lib.hid (nearSeq_take (v := v) (es := es) hle (Nat.le_of_lt hlt))
      have HN2 : Hid ((rd_T46 es (k : Int)).f0 ≤ v → (es.take (k + 1)).flatMap (nearOne v) <+: nearSeq v es) := Lib.hid (by
        intro hx
        obtain ⟨rest, hr⟩ := (nearSeq_take (v := v) (es := es) (k := k + 1) (fun j hj => by
          rcases Nat.lt_or_ge j k with h | h
          · exact hle j h
          · obtain rfl : j = k := by omega
            exact hx) hlt).1
        exact ⟨rest, hr.symm⟩)
      have Hne := hne _ hmem
      have HL := Lib.hid hle
      clear hle hmem hne hC
      generalize hx0 : (rd_T46 es (k : Int)).f0 = x0 at *
      generalize hx1 : (rd_T46 es (k : Int)).f1 = x1 at *
      have HX0 := Lib.hid hx0
      have HX1 := Lib.hid hx1
      clear hx0 hx1
      obtain ⟨w1, hw1⟩ : ∃ w1, wr.alloc (.cells #[.int .i64 x0, .int .i64 x1] 46) = w1 := ⟨_, rfl⟩
      have hJ2 : J ((es.take k).flatMap (nearOne v)) w1 := hw1 ▸ hJ _ wr _ none hJs (World.grownBy_alloc _ _ _) (fun r e => by cases e)
      have hB2 : KpN n₀ Bv W w1 := hw1 ▸ hnx.trans (KpN.alloc hsz (by omega) _)
      have hbx : w1.heap[wr.heap.size]? = some (.cells #[.int .i64 x0, .int .i64 x1] 46 (0, 0)) := hw1 ▸ World.alloc_heap_new wr _
      have hcv2 : w1.cell? ⟨Bv, 0, none⟩ = some (.int .i64 v) := box_cells (hB2.box.trans hcv) 0
      rw [← hw1] at hcv2
      have HW1 := Lib.hid hw1
      clear hJs hw1
      have HSTEP : Hid (x0 ≤ v → ∀ j : Nat, j < k + 1 → (rd_T46 es (j : Int)).f0 ≤ v) := Lib.hid (by
        intro hx j hj
        rcases Nat.lt_or_ge j k with h | h
        · exact HL.out j h
        · obtain rfl : j = k := by omega
          rw [HX0.out]; exact hx)
      by_cases hv : v < x0
      · -- beyond
        gi_wp2
        refine bodyPost_ret (results_none rfl _ _ _) rfl ?_
        refine ⟨⟨_, rfl⟩, .inl ⟨_, rfl, ?_⟩⟩
        rw [HN.out.2.2 hlt hv, HW1.out]
        exact hJ2
      · have hv' : x0 ≤ v := by omega
        clear hv
        by_cases h1 : x1 = v
        · -- the second end
          have h0' : x0 ≠ v := fun h => Hne (h.trans h1.symm)
          have T1 : (x1 == v) = true := beq_iff_eq.2 h1
          have T0 : (x0 == v) = false := beq_eq_false_iff_ne.2 h0'
          have HE' : Hid ((es.take (k + 1)).flatMap (nearOne v) = (es.take k).flatMap (nearOne v) ++ [x0]) := Lib.hid (by
            rw [HS.out]; unfold nearOne; rw [HX0.out, HX1.out, if_pos h1, if_neg h0']; rfl)
          clear h1 h0' Hne
          obtain ⟨fn, tmps, assign, body, hy, hR⟩ := hY _ x0 _ hJ2 hpl
          rw [← HW1.out] at hy hR
          gi_wp2
          refine hR.mono ?_
          rintro e W3 (⟨rfl, hJ3, hk3⟩ | ⟨rfl, hJx3⟩)
          · rw [HW1.out] at hk3
            have hb3 : KpN n₀ Bv W W3 := hB2.trans hk3
            have hcv3 : W3.cell? ⟨Bv, 0, none⟩ = some (.int .i64 v) := box_cells (hb3.box.trans hcv) 0
            have hX0 : W3.cell? ⟨wr.heap.size, 0, none⟩ = some (.int .i64 x0) := box_cells (hk3.edges _ _ hbx) 0
            have hX1 : W3.cell? ⟨wr.heap.size, 1, none⟩ = some (.int .i64 x1) := box_cells (hk3.edges _ _ hbx) 1
            gi_wp2
            refine ⟨fun _ h => (by cases h), ?_⟩
            gi_wp2
            go_roundw
            case rel => exact ⟨k + 1, by omega, by simp, HSTEP.out hv', by rw [HE'.out]; exact hJ3, hb3⟩
            case measure => simp [intOf]; omega
          · gi_wp2
            refine bodyPost_ret (results_none rfl _ _ _) rfl ?_
            refine ⟨⟨_, rfl⟩, .inr ⟨_, ?_, hJx3⟩⟩
            rw [← HE'.out]; exact HN2.out hv'
        · have T1 : (x1 == v) = false := beq_eq_false_iff_ne.2 h1
          by_cases h0' : x0 = v
          · have T0 : (x0 == v) = true := beq_iff_eq.2 h0'
            have HE' : Hid ((es.take (k + 1)).flatMap (nearOne v) = (es.take k).flatMap (nearOne v) ++ [x1]) := Lib.hid (by
              rw [HS.out]; unfold nearOne; rw [HX0.out, HX1.out, if_neg h1, if_pos h0']; rfl)
            clear h1 h0' Hne
            obtain ⟨fn, tmps, assign, body, hy, hR⟩ := hY _ x1 _ hJ2 hpl
            rw [← HW1.out] at hy hR
            gi_wp2
            refine ⟨fun _ h => (by cases h), ?_⟩
            gi_wp2
            refine hR.mono ?_
            rintro e W3 (⟨rfl, hJ3, hk3⟩ | ⟨rfl, hJx3⟩)
            · rw [HW1.out] at hk3
              have hb3 : KpN n₀ Bv W W3 := hB2.trans hk3
              gi_wp2
              go_roundw
              case rel => exact ⟨k + 1, by omega, by simp, HSTEP.out hv', by rw [HE'.out]; exact hJ3, hb3⟩
              case measure => simp [intOf]; omega
            · gi_wp2
              refine bodyPost_ret (results_none rfl _ _ _) rfl ?_
              refine ⟨⟨_, rfl⟩, .inr ⟨_, ?_, hJx3⟩⟩
              rw [← HE'.out]; exact HN2.out hv'
          · have T0 : (x0 == v) = false := beq_eq_false_iff_ne.2 h0'
            have HE' : Hid ((es.take (k + 1)).flatMap (nearOne v) = (es.take k).flatMap (nearOne v)) := Lib.hid (by
              rw [HS.out]; unfold nearOne; rw [HX0.out, HX1.out, if_neg h1, if_neg h0']; simp)
            clear h1 h0' Hne
            gi_wp2
            all_goals
              refine ⟨fun _ h => (by cases h), ?_⟩
              gi_wp2
            go_roundw
            case rel => exact ⟨k + 1, by omega, by simp, HSTEP.out hv', by rw [HE'.out, HW1.out]; exact hJ2, by rw [HW1.out]; exact hB2⟩
            case measure => simp [intOf]; omega
    · obtain rfl : k = es.length := by omega
      gi_wp2
      go_end0
      exact ⟨⟨_, rfl⟩, .inl ⟨_, rfl, by rw [(nearSeq_take hle (Nat.le_refl _)).2.1 rfl]; exact hJs⟩⟩

/-- graph.near: the graph and the vertex are boxed -/
theorem near_in (F : Fence) (n : Nat) (h5 : F.fn 46) (hro : F.round = none) (N v : Int) (A : Option Addr) (len cap : Nat) (w : World) :
    CallsIn F n Try.prog 46 #[.agg #[.int .i64 N, .slice A len cap], .int .i64 v] w fun e w' => e = .returned (.func (.func 61) #[] #[.pointer (some ⟨w.heap.size, 0, none⟩), .pointer (some ⟨w.heap.size + 1, 0, none⟩)]) ∧
      w' = (w.alloc (.cells #[.int .i64 N, .slice A len cap] 24)).alloc (.cells #[.int .i64 v] 3) := by
  refine callsIn_of_wp Try.func46 rfl h5 ?_ hro
  simp only [Try.ntmps46, List.size_toArray, List.length_cons, List.length_nil, Nat.reduceAdd, Nat.reduceSub, Array.replicate_succ, Array.replicate_zero, List.push_toArray, List.append_toArray, List.nil_append, List.cons_append]
  gi_wp2
  go_ret
  exact ⟨rfl, rfl⟩

theorem near_stops (F : Fence) (n : Nat) (h7 : F.fn 61) (hro : F.round = none) (hn : 1 ≤ n) (Bg Bv n₀ cap : Nat) (v : Int) (A : Option Addr) (es : List S46) (hne : ∀ e ∈ es, e.f0 ≠ e.f1)
    (w : World) (hb : ∀ ad, A = some ad → 0 < es.length → ad.block < n₀) (hn₀ : n₀ ≤ w.heap.size)
    (hg : ∃ N, w.heap[Bg]? = some (.cells #[.int .i64 N, .slice A es.length cap] 24 (0, 0))) (hcv : w.heap[Bv]? = some (.cells #[.int .i64 v] 3 (0, 0))) (hC : Kd.C k46 w A es.length es) :
    SeqStopsK F n Try.prog 61 #[.pointer (some ⟨Bg, 0, none⟩), .pointer (some ⟨Bv, 0, none⟩)] (fun x : Int => #[Value.int .i64 x]) (KpN n₀ Bv) (fun ys => ys = nearSeq v es) (fun pre => pre <+: nearSeq v es) es.length w := fun l J Jx W hW hJ _ hY h0 => by
  obtain ⟨N, hg⟩ := hg
  have hBg := (Array.getElem?_eq_some_iff.1 hg).1
  have hBv := (Array.getElem?_eq_some_iff.1 hcv).1
  exact near1_in F n h7 hro hn l Bg Bv n₀ cap v A es hne hb J Jx W (Nat.le_trans hn₀ hW.size) (Nat.lt_of_lt_of_le hBv hW.size) hJ hY
    (box_cells ((hW.block Bg hBg).trans hg) 1) ((hW.block Bv hBv).trans hcv) (Kd.C_below hC hW) h0

end Go.Proofs.Ytngglgkemonibaa.P
