/- graph.Near: its contract. -/
import Derived.Test.YtngglgkemonibaaQ34
import Derived.Maps.AppendAt
set_option linter.unusedVariables false
set_option linter.unusedSimpArgs false
set_option linter.unnecessarySimpa false
namespace Go.Proofs.Ytngglgkemonibaa.P
open Go.RowKit Go.Shelf Go.Proofs.YtngglgkemonibaaW.PrintWords Go.Proofs.Ytngglgkemonibaa.G
set_option linter.unusedVariables false
set_option linter.unusedSimpArgs false

attribute [local go_sem] Oper.semAt_some

theorem near_ne (t : Nat) (h : t ≠ 3) : (46 : Nat) ≠ 3 := by decide

set_option maxRecDepth 100000 in
set_option maxHeartbeats 4000000 in
theorem near_right (N a : Int) (A : Option Addr) (cap : Nat) (l : List S46) (w : World) (hC : Kd.C k46 w A l.length l) (hcap : l.length ≤ cap) (hR : Right N (ed l)) :
    CallsIn Fence.wide 5 Try.prog 28 #[.agg #[.int .i64 N, .slice A l.length cap], .int .i64 a] w fun e W' => ∃ v : Value, e = .returned v ∧ W'.ownsRow w.heap.size 3 1 v (nearSeq a l).length ((nearSeq a l).map (Value.int .i64)) ∧ Below w.heap.size w W' := by
  refine callsIn_of_wp_marks Try.func28 rfl trivial ?_ rfl
  simp only [Try.ntmps28, List.size_toArray, List.length_cons, List.length_nil, Nat.reduceAdd, Nat.reduceSub, Array.replicate_succ, Array.replicate_zero, List.push_toArray, List.append_toArray, List.nil_append, List.cons_append]
  have hRf : graph_Right.f 4006 N l = some true := by rw [right_f N l 4006 (Nat.le_refl _), decide_eq_true hR]
  have HRf := Lib.hid hRf
  clear hRf
  have HC := Lib.hid hC
  clear hC
  obtain ⟨hG0, hX0, hS0, hb0⟩ := box2 w (.cells #[.int .i64 N, .slice A l.length cap] 24) (.cells #[.slice none 0 0] 25)
  gi_wp2_with (first
    | (refine ⟨trivial, ?_⟩; gi_at_call 32; refine (callsIn_wide.2 (graph_Right.calls 4006 N A cap l true _ (Kd.C_below HC.out hb0) hcap HRf.out)).mono ?_; rintro e w1 ⟨rfl, hb1⟩
       have hG1 : w1.heap[w.heap.size]? = some (.cells #[.int .i64 N, .slice A l.length cap] 24 (0, 0)) := (hb1.block _ (by rw [hS0]; omega)).trans hG0
       have hX1 : w1.heap[w.heap.size + 1]? = some (.cells #[.slice none 0 0] 25 (0, 0)) := (hb1.block _ (by rw [hS0]; omega)).trans hX0
       have hs1 : w.heap.size + 2 ≤ w1.heap.size := hS0 ▸ hb1.size
       have hbw1 : Below w.heap.size w w1 := hb0.trans (hb1.mono (by rw [hS0]; omega))
       clear hb1 hb0 hG0 hX0 hS0
       have hc1 := blk_cell hG1 0
       have hc2 := blk_cell hG1 1
       simp only [List.getElem?_toArray, List.getElem?_cons_zero, List.getElem?_cons_succ] at hc1 hc2)
    | (refine ⟨trivial, ?_⟩; gi_at_call 46; refine (near_in Fence.wide _ trivial rfl _ _ _ _ _ _).mono ?_; rintro e w2 ⟨rfl, rfl⟩))
  obtain ⟨hg2, hv2, hs2, hb2⟩ := box2 w1 (.cells #[.int .i64 N, .slice A l.length cap] 24) (.cells #[.int .i64 a] 3)
  obtain ⟨w2, hw2⟩ : ∃ w2, (w1.alloc (.cells #[.int .i64 N, .slice A l.length cap] 24)).alloc (.cells #[.int .i64 a] 3) = w2 := ⟨_, rfl⟩
  rw [hw2] at hg2 hv2 hs2 hb2 ⊢
  have hX2 : w2.heap[w.heap.size + 1]? = some (.cells #[.slice none 0 0] 25 (0, 0)) := (hb2.block _ (by omega)).trans hX1
  have hbw2 : Below w.heap.size w w2 := hbw1.trans (hb2.mono (by omega))
  have hC2 : Kd.C k46 w2 A l.length l := Kd.C_below HC.out hbw2
  have hmax : l.length ≤ 9223372036854775807 := hC2.2.1
  have hlim : l.length ≤ 4000 := by have := hR.len; rwa [ed_length] at this
  clear hc1 hc2 hw2
  have hne : ∀ e ∈ l, e.f0 ≠ e.f1 := fun e he h => by
    have := hR.ends (e.f0, e.f1) (List.mem_map.2 ⟨e, he, rfl⟩); simp only at this; omega
  obtain ⟨i0, hi, hz0, hz1, hz2⟩ := info_parts info3
  refine wpIn_rangeFunc_ownG rfl (by omega) (gf := 61) (lb := #[.pointer (some ⟨w1.heap.size, 0, none⟩), .pointer (some ⟨w1.heap.size + 1, 0, none⟩)]) rfl trivial (enters_of Try.func61 (by kernel_rfl) rfl)
    (near_stops Fence.wide 4 trivial rfl (by omega) w1.heap.size (w1.heap.size + 1) w.heap.size cap a A l hne w2 (C_lt HC.out (by decide)) hbw2.size ⟨N, hg2⟩ hv2 hC2) KpN.trans (KpN.put hbw2.size (by omega)) (Below.refl _ _) (fun _ => rfl)
    (fun pre W => ∃ v, W.heap[w.heap.size + 1]? = some (.cells #[v] 25 (0, 0)) ∧ W.ownsRow w2.heap.size 3 1 v pre.length (pre.map (Value.int .i64)) ∧ Below w.heap.size w W ∧ w2.heap.size ≤ W.heap.size)
    (fun _ _ _ => False)
    (fun s W W' row hs hg hr => by
      obtain ⟨v, h1, h2, h3, h4⟩ := hs
      refine ⟨v, own_blk h1 hg hr, h2.kept hg ?_, own_below_ hbw2.size h3 hg hr, Nat.le_trans h4 hg.size⟩
      rcases h2.2 with ⟨rfl, _⟩ | ⟨g, cp, cur, rfl, _, hgb, _⟩
      · exact .inl rfl
      · refine .inr fun e' => ?_
        obtain ⟨_, o, ho, hoc⟩ := hr g e'.symm
        rw [hgb] at ho; cases ho; simp [Obj.isCells] at hoc)
    (fun c s W W' row hs hg hr => hs)
    ⟨_, hX2, by simpa using World.ownsRow_nil .., hbw2, Nat.le_refl _⟩
    (fun x => { tmps := #[.agg #[.int .i64 N, .slice A l.length cap], .int .i64 a, .pointer (some ⟨w.heap.size, 0, none⟩), undef, .slice none 0 0, .pointer (some ⟨w.heap.size + 1, 0, none⟩), .int .i64 x,
      .agg #[.int .i64 N, .slice A l.length cap], .bool true, .bool false, .agg #[.int .i64 N, .slice A l.length cap], .int .i64 a, .func (.func 61) #[] #[.pointer (some ⟨w1.heap.size, 0, none⟩), .pointer (some ⟨w1.heap.size + 1, 0, none⟩)], .int .i64 x, undef, undef, undef, undef, undef], defers := [] }) ?assign ?body ?done ?stop
  case assign =>
    intro l x W K hK
    gi_wp2
    exact hK
  case body =>
    rintro lp pre x W ⟨v, hX, hrow, hW, hsz⟩ hlen
    have hvc : W.cell? ⟨w.heap.size + 1, 0, none⟩ = some v := (blk_cell hX 0).trans rfl
    have hr5 := hrow.alloc (.cells #[.int .i64 x] 3)
    have hr6 := cell_one_new W (.int .i64 x) 3
    have hone : ∀ u ∈ [Value.int .i64 x], u.oneCell' = true := by intro u hu; rw [List.mem_singleton.1 hu]; rfl
    have hXa : (W.alloc (.cells #[.int .i64 x] 3)).heap[w.heap.size + 1]? = some (.cells #[v] 25 (0, 0)) := (Below.heap_alloc _ _ _ (blk_lt hX)).trans hX
    have hne2 : some (w.heap.size + 1) ≠ v.ownBlock := own_ne hrow hX (by decide)
    have hm1 : pre.length + 1 ≤ maxLen := by unfold maxLen; omega
    have hm2 : (pre.length + 1) * 8 ≤ 140737488355328 := by omega
    have hm3 : w2.heap.size ≤ (W.alloc (.cells #[.int .i64 x] 3)).heap.size := by rw [World.size_alloc]; omega
    gi_wp2_with (gi_at_builtin; go_loud (refine wpListIn_append_own _ rfl _ _ 25 rfl w2.heap.size 3 i0 (.int .i64 0) 1 8 Try.underlying25 hi hz0 hz1 hz2 rfl (by decide) _ _ _ rfl hr5 ⟨W.heap.size, 0, none⟩ 1 1 [.int .i64 x] rfl rfl hr6 hone hm1 hm2 hm3 ?_); go_loud (intro v' w3 hown' hgrow _); go_loud (obtain ⟨g', cap', rfl⟩ := ownsRow_succ hown'); go_loud (have hB3 := blk_grown hXa hgrow hne2); go_loud (have hc3 := (blk_cell hB3 0).trans rfl); go_loud (have hf3 := blk_frozen hB3 0))
    have hk3 : KpN w.heap.size (w1.heap.size + 1) W w3 := by
      refine ⟨(((Below.refl _ W).alloc (Nat.le_trans hbw2.size hsz) _).grown hgrow (by rw [World.size_alloc]; have := hbw2.size; omega) (fun k e => ?_)), fun i cs hi => ?_, ?_⟩
      · have := own_base hrow k e; have := hbw2.size; omega
      · exact blk_grown ((Below.heap_alloc _ _ _ (blk_lt hi)).trans hi) hgrow (own_ne hr5 ((Below.heap_alloc _ _ _ (blk_lt hi)).trans hi) (near_ne 0 (by decide)).symm)
      · rw [hgrow.block _ (by rw [World.size_alloc]; omega) (fun e => by have := own_base hrow _ e.symm; omega)]
        exact Below.heap_alloc _ _ _ (by omega)
    refine ⟨?_, hk3.trans (kpn_set hB3 (by decide) (by omega) (by omega) 0 _), ⟨_, blk_set hB3 0 _, ?_, (hW.trans hk3.below).setCell (p := ⟨w.heap.size + 1, 0, none⟩) (by show w.heap.size ≤ w.heap.size + 1; omega) _, ?_⟩⟩
    · refine ((KeepsOthers.alloc W (.cells #[.int .i64 x] 3)).trans ((KeepsOthers.of_grownBy hgrow fun j o ej hj => ?_).trans (KeepsOthers.setCell _ _ _))).from _
      obtain ⟨cells, hcs⟩ := own_typed hr5 j ej
      rw [hcs] at hj; cases hj; rfl
    · rw [List.length_append, List.map_append]
      exact own_setCell hown' (own_ne hown' hB3 (by decide)) _
    · show w2.heap.size ≤ (w3.setCell _ _).heap.size
      have := hgrow.size
      rw [World.size_alloc] at this
      simp only [World.size_setCell]; omega
  case done =>
    rintro D ys W hD rfl ⟨v, hX, hrow, hW, hsz⟩ hK
    have hvc : W.cell? ⟨w.heap.size + 1, 0, none⟩ = some v := (blk_cell hX 0).trans rfl
    gi_wp2
    refine ⟨by simp, .inl ⟨_, _, rfl, run_takeDeferred hK, ?_⟩⟩
    have hbk : Below w.heap.size W (W.putObj D (.deferred none)) := belowK_b (w := w) (Nat.le_refl _) W D _ _ (Nat.le_trans hbw2.size hD) hK rfl rfl
    refine ⟨_, results_tmp rfl _ _ _, _, rfl, own_weaken (ownsRow_putObj hrow _ hK rfl) hbw2.size, hW.trans hbk⟩
  case stop =>
    rintro D c pre W hD hpre h hK
    exact h.elim

set_option maxRecDepth 100000 in
set_option maxHeartbeats 4000000 in
theorem near_wrong (N a : Int) (A : Option Addr) (cap : Nat) (l : List S46) (w : World) (hC : Kd.C k46 w A l.length l) (hcap : l.length ≤ cap) (hR : ¬ Right N (ed l)) :
    Calls Try.prog 28 #[.agg #[.int .i64 N, .slice A l.length cap], .int .i64 a] w fun e W' => e = .returned (.slice none 0 0) ∧ Below w.heap.size w W' := by
  have hRf : graph_Right.f 4006 N l = some false := by rw [right_f N l 4006 (Nat.le_refl _), decide_eq_false hR]
  have HRf := Lib.hid hRf
  clear hRf
  have HC := Lib.hid hC
  clear hC
  obtain ⟨hG0, hX0, hS0, hb0⟩ := box2 w (.cells #[.int .i64 N, .slice A l.length cap] 24) (.cells #[.slice none 0 0] 25)
  go_enter Try.func28, Try.ntmps28
  go_wp2_with (
    go_at_call 32
    refine (graph_Right.calls 4006 N A cap l false _ (Kd.C_below HC.out hb0) hcap HRf.out).mono ?_
    rintro e w1 ⟨rfl, hb1⟩
    have hbw1 : Below w.heap.size w w1 := hb0.trans (hb1.mono (by rw [hS0]; omega))
    clear hb1 hb0 hG0 hX0 hS0)
  go_ret
  exact ⟨rfl, hbw1⟩

/-- graph.Near, as a function on lists -/
def graph_Near.f (n : Int) (l : List S46) (a : Int) : Option (List Int) := some (if Right n (ed l) then nearSeq a l else [])

theorem graph_Near.calls (a0_0 : Int) (A0_1 : Option Addr) (c0_1 : Nat) (l0_1 : List S46) (a1 : Int) (r : List Int) (w : World) (hr0_1 : Kd.C k46 w A0_1 l0_1.length l0_1) (hc0_1 : l0_1.length ≤ c0_1) (h : graph_Near.f a0_0 l0_1 a1 = some r) :
    Calls Try.prog 28 #[.agg #[.int .i64 a0_0, .slice A0_1 l0_1.length c0_1], .int .i64 a1] w fun e w' => ∃ v0_ : Value, e = .returned (v0_) ∧ Kd.R (Kd.int .i64) 3 w' w.heap.size (fun _ => True) v0_ r ∧ Below w.heap.size w w' := by
  obtain rfl := Option.some.inj h
  by_cases hR : Right a0_0 (ed l0_1)
  · rw [if_pos hR]
    refine (callsIn_wide.1 (near_right a0_0 a1 A0_1 c0_1 l0_1 w hr0_1 hc0_1 hR)).mono ?_
    rintro e w' ⟨v, rfl, ho, hb⟩
    exact ⟨v, rfl, Kd.R_of_own ho (fun _ _ => trivial), hb⟩
  · rw [if_neg hR]
    refine (near_wrong a0_0 a1 A0_1 c0_1 l0_1 w hr0_1 hc0_1 hR).mono ?_
    rintro e w' ⟨rfl, hb⟩
    exact ⟨_, rfl, Kd.R_nil _ _ _ _ _, hb⟩

end Go.Proofs.Ytngglgkemonibaa.P
