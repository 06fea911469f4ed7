-- made by wip/fork.py (a program of this session) out of the translation; Lean checks it
import Derived.Test.YtngglgkemonibaaK0
/- flat -/
namespace Go.Proofs.Ytngglgkemonibaa.P
open Go.RowKit Go.Proofs.YtngglgkemonibaaW.PrintWords Go.Proofs.YtngglgkemonibaaW.PrintLast Go.Proofs.YtngglgkemonibaaW.PrintMore
attribute [local go_sem] max2_int min2_int max_two min_two max_three min_three max_four min_four   -- for this text's walks alone
set_option linter.unusedVariables false
set_option linter.unusedSimpArgs false

/-! ### carcanetref03_Right: function 34 -/
mutual
def carcanetref03_Right.j0 : Nat → Bool → Int → List (S46) → Option (Bool)
  | 0, _, _, _ => none
  | k + 1, x18, x126000, x126001 => if x18 = true then (some false) else (carcanetref03_Right.l0 k 0 x126000 x126001)
def carcanetref03_Right.l0 : Nat → Int → Int → List (S46) → Option (Bool)
  | 0, _, _, _ => none
  | k + 1, x3, x126000, x126001 => if x3 < (x126001.length : Int) then (if 0 ≤ x3 then (if ((rd_T46 x126001 x3).f0) < 0 then (carcanetref03_Right.j2 k x3 true x126000 x126001 ((rd_T46 x126001 x3).f0) ((rd_T46 x126001 x3).f1)) else (if ((rd_T46 x126001 x3).f1) ≥ x126000 then (carcanetref03_Right.j2 k x3 true x126000 x126001 ((rd_T46 x126001 x3).f0) ((rd_T46 x126001 x3).f1)) else (carcanetref03_Right.j2 k x3 (decide (((rd_T46 x126001 x3).f0) ≥ ((rd_T46 x126001 x3).f1))) x126000 x126001 ((rd_T46 x126001 x3).f0) ((rd_T46 x126001 x3).f1)))) else (none)) else (some true)
def carcanetref03_Right.j2 : Nat → Int → Bool → Int → List (S46) → Int → Int → Option (Bool)
  | 0, _, _, _, _, _, _ => none
  | k + 1, x3, x47, x126000, x126001, x128000, x128001 => if x47 = true then (some false) else (if x3 > 0 then (if 0 ≤ (wrap64 (x3 - 1)) then (if (wrap64 (x3 - 1)) < (x126001.length : Int) then (if ((rd_T46 x126001 (wrap64 (x3 - 1))).f0) > x128000 then (some false) else (if ((rd_T46 x126001 (wrap64 (x3 - 1))).f0) = x128000 then (if ((rd_T46 x126001 (wrap64 (x3 - 1))).f1) ≥ x128001 then (some false) else (carcanetref03_Right.l0 k (wrap64 (x3 + 1)) x126000 x126001)) else (carcanetref03_Right.l0 k (wrap64 (x3 + 1)) x126000 x126001))) else (none)) else (none)) else (carcanetref03_Right.l0 k (wrap64 (x3 + 1)) x126000 x126001))
end
def carcanetref03_Right.f (k : Nat) (a0_0 : Int) (l0_1 : List (S46)) : Option (Bool) := if a0_0 < 0 then (carcanetref03_Right.j0 k true a0_0 l0_1) else (if a0_0 > 1000 then (carcanetref03_Right.j0 k true a0_0 l0_1) else (carcanetref03_Right.j0 k (decide ((l0_1.length : Int) > 4000)) a0_0 l0_1))
set_option maxHeartbeats 8000000 in
set_option maxRecDepth 100000 in
theorem carcanetref03_Right.calls (k : Nat) (a0_0 : Int) (A0_1 : Option Addr) (c0_1 : Nat) (l0_1 : List (S46)) (r : Bool) (w : World) (hr0_1 : Kd.C k46 w A0_1 l0_1.length l0_1) (hc0_1 : l0_1.length ≤ c0_1) (h : carcanetref03_Right.f k a0_0 l0_1 = some r) :
    Calls Try.prog 34 #[.agg #[.int .i64 a0_0, .slice A0_1 l0_1.length c0_1]] w fun e w' => e = .returned (.bool r) ∧ Below w.heap.size w w' := by
 have hu24 := Try.underlying24
 have hu46 := Try.underlying46
 have HR0_1 := Aside0.mk hr0_1
 have HC0_1 := Aside0.mk hc0_1
 clear hr0_1 hc0_1
 have HB := Aside0.mk (Below.refl w.heap.size w)
 have H : (if a0_0 < 0 then (carcanetref03_Right.j0 k true a0_0 l0_1) else (if a0_0 > 1000 then (carcanetref03_Right.j0 k true a0_0 l0_1) else (carcanetref03_Right.j0 k (decide ((l0_1.length : Int) > 4000)) a0_0 l0_1))) = some r := h
 clear h
 have HC2 := Aside0.mk H
 clear H
 go_enter Try.func34, Try.ntmps34
 go_upto_region 1 with (first | ((with_reducible refine gate_dst (N := 1) rfl ?_); (try (refine gate_guard (by rfl) ?_; dsimp only)); refine box_event ?hg (N := 1) ?hd (cs := #[.int .i64 a0_0, .slice A0_1 l0_1.length c0_1]) (t := 24) ?hr ?_; (case hd => rfl); (case hg => rfl); (case hr => first | (go_simp; done) | (go_simp; rfl)); intro gb125 hg w3 hbox hb; have n0_ := Aside0.mk (below_step (by repeat (first | (with_reducible first | exact HB.out | apply below_alloc | apply pw_below_drewN | apply below_drew1) | exact HB.out)) hb); have n1_ := Aside0.mk (hbox); have n2_ := Aside0.mk ((by rw [hg]; exact (below_size (by repeat (first | (with_reducible first | exact HB.out | apply below_alloc | apply pw_below_drewN | apply below_drew1) | exact HB.out))) : w.heap.size ≤ gb125)); have n3_ := Aside0.mk ((by rw [hg]; exact (below_size (by repeat (first | (with_reducible first | exact HB.out | apply below_alloc | apply pw_below_drewN | apply below_drew1) | exact HB.out))) : w.heap.size ≤ gb125)); clear HB; have HB := n0_; have BK125 := n1_; have GW125 := n2_; have GE125 := n3_; clear n0_ n1_ n2_ n3_; clear hb hbox hg))
 repeat (go_quiet (first | ((with_reducible refine gate_dst (N := 1) rfl ?_); (try (refine gate_guard (by rfl) ?_; dsimp only)); refine box_event ?hg (N := 1) ?hd (cs := #[.int .i64 a0_0, .slice A0_1 l0_1.length c0_1]) (t := 24) ?hr ?_; (case hd => rfl); (case hg => rfl); (case hr => first | (go_simp; done) | (go_simp; rfl)); intro gb125 hg w3 hbox hb; have n0_ := Aside0.mk (below_step (by repeat (first | (with_reducible first | exact HB.out | apply below_alloc | apply pw_below_drewN | apply below_drew1) | exact HB.out)) hb); have n1_ := Aside0.mk (hbox); have n2_ := Aside0.mk ((by rw [hg]; exact (below_size (by repeat (first | (with_reducible first | exact HB.out | apply below_alloc | apply pw_below_drewN | apply below_drew1) | exact HB.out))) : w.heap.size ≤ gb125)); have n3_ := Aside0.mk ((by rw [hg]; exact (below_size (by repeat (first | (with_reducible first | exact HB.out | apply below_alloc | apply pw_below_drewN | apply below_drew1) | exact HB.out))) : w.heap.size ≤ gb125)); clear HB; have HB := n0_; have BK125 := n1_; have GW125 := n2_; have GE125 := n3_; clear n0_ n1_ n2_ n3_; clear hb hbox hg)); go_upto_region 1 with (first | ((with_reducible refine gate_dst (N := 1) rfl ?_); (try (refine gate_guard (by rfl) ?_; dsimp only)); refine box_event ?hg (N := 1) ?hd (cs := #[.int .i64 a0_0, .slice A0_1 l0_1.length c0_1]) (t := 24) ?hr ?_; (case hd => rfl); (case hg => rfl); (case hr => first | (go_simp; done) | (go_simp; rfl)); intro gb125 hg w3 hbox hb; have n0_ := Aside0.mk (below_step (by repeat (first | (with_reducible first | exact HB.out | apply below_alloc | apply pw_below_drewN | apply below_drew1) | exact HB.out)) hb); have n1_ := Aside0.mk (hbox); have n2_ := Aside0.mk ((by rw [hg]; exact (below_size (by repeat (first | (with_reducible first | exact HB.out | apply below_alloc | apply pw_below_drewN | apply below_drew1) | exact HB.out))) : w.heap.size ≤ gb125)); have n3_ := Aside0.mk ((by rw [hg]; exact (below_size (by repeat (first | (with_reducible first | exact HB.out | apply below_alloc | apply pw_below_drewN | apply below_drew1) | exact HB.out))) : w.heap.size ≤ gb125)); clear HB; have HB := n0_; have BK125 := n1_; have GW125 := n2_; have GE125 := n3_; clear n0_ n1_ n2_ n3_; clear hb hbox hg)))
 (try simp only [Act.put, List.setIfInBounds_toArray, List.set_cons_zero, List.set_cons_succ])
 go_cut [18] (fun v18 wc => ∃ (kq : Nat) (x18_1 : Bool), v18 = .bool x18_1 ∧ Aside0 (carcanetref03_Right.j0 kq x18_1 a0_0 l0_1 = some r) ∧ Aside0 (kq ≤ k) ∧ Aside0 (wc.heap[gb125]? = some (.cells #[.int .i64 a0_0, (.slice A0_1 l0_1.length c0_1)] 24 (0, 0))) ∧ Aside0 (Below w.heap.size w wc))
 case first =>
  have H := HC2.out
  clear HC2
  by_cases c4 : a0_0 < 0
  · rw [if_pos c4] at H
    have c4b0 : decide (a0_0 < 0) = true := decide_eq_true c4
    clear c4
    (first | rw [c4b0] | (simp only [i64_w, i32_w]; rw [c4b0]) | skip)
    have H' := Aside0.mk H
    clear H
    have hcz5_0 : w3.cell? ⟨gb125, 0, none⟩ = some (.int .i64 a0_0) := (blk_cell BK125.out 0).trans rfl
    have hcz5_1 : w3.cell? ⟨gb125, 1, none⟩ = some (.slice A0_1 l0_1.length c0_1) := (blk_cell BK125.out 1).trans rfl
    have hfz5_0 := blk_frozen BK125.out 0
    have hfz5_1 := blk_frozen BK125.out 1
    go_wp2
    repeat (go_quiet (fail); try go_wp2)
    go_meet
    exact ⟨_, (true), (by first | rfl | (simp; done) | (simp [*]; done)), H', ⟨by first | omega | exact Nat.le_refl _⟩, ⟨by (with_reducible repeat (first | refine blk_drewN ?_ _ | refine blk_drew ?_ | refine blk_alloc ?_ _)); exact BK125.out⟩, ⟨by repeat (first | (with_reducible first | exact HB.out | apply below_alloc | apply pw_below_drewN | apply below_drew1 | refine below_set ?_ GE125.out) | exact HB.out)⟩⟩
  rw [if_neg c4] at H
  have c4b0 : decide (a0_0 < 0) = false := decide_eq_false c4
  clear c4
  (first | rw [c4b0] | (simp only [i64_w, i32_w]; rw [c4b0]) | skip)
  by_cases c6 : a0_0 > 1000
  · rw [if_pos c6] at H
    have c6b0 : decide (1000 < a0_0) = true := decide_eq_true c6
    clear c6
    have H' := Aside0.mk H
    clear H
    have hcz7_0 : w3.cell? ⟨gb125, 0, none⟩ = some (.int .i64 a0_0) := (blk_cell BK125.out 0).trans rfl
    have hcz7_1 : w3.cell? ⟨gb125, 1, none⟩ = some (.slice A0_1 l0_1.length c0_1) := (blk_cell BK125.out 1).trans rfl
    have hfz7_0 := blk_frozen BK125.out 0
    have hfz7_1 := blk_frozen BK125.out 1
    go_wp2
    repeat (go_quiet (fail); try go_wp2)
    go_meet
    exact ⟨_, (true), (by first | rfl | (simp; done) | (simp [*]; done)), H', ⟨by first | omega | exact Nat.le_refl _⟩, ⟨by (with_reducible repeat (first | refine blk_drewN ?_ _ | refine blk_drew ?_ | refine blk_alloc ?_ _)); exact BK125.out⟩, ⟨by repeat (first | (with_reducible first | exact HB.out | apply below_alloc | apply pw_below_drewN | apply below_drew1 | refine below_set ?_ GE125.out) | exact HB.out)⟩⟩
  rw [if_neg c6] at H
  have c6b0 : decide (1000 < a0_0) = false := decide_eq_false c6
  clear c6
  have H' := Aside0.mk H
  clear H
  have hcz8_0 : w3.cell? ⟨gb125, 0, none⟩ = some (.int .i64 a0_0) := (blk_cell BK125.out 0).trans rfl
  have hcz8_1 : w3.cell? ⟨gb125, 1, none⟩ = some (.slice A0_1 l0_1.length c0_1) := (blk_cell BK125.out 1).trans rfl
  have hfz8_0 := blk_frozen BK125.out 0
  have hfz8_1 := blk_frozen BK125.out 1
  go_wp2
  repeat (go_quiet (fail); try go_wp2)
  go_meet
  exact ⟨_, (decide ((l0_1.length : Int) > 4000)), (by first | rfl | (simp; done) | (simp [*]; done)), H', ⟨by first | omega | exact Nat.le_refl _⟩, ⟨by (with_reducible repeat (first | refine blk_drewN ?_ _ | refine blk_drew ?_ | refine blk_alloc ?_ _)); exact BK125.out⟩, ⟨by repeat (first | (with_reducible first | exact HB.out | apply below_alloc | apply pw_below_drewN | apply below_drew1 | refine below_set ?_ GE125.out) | exact HB.out)⟩⟩
 clear HC2
 try clear p2
 try clear c3
 try clear c4
 try clear c4b0
 try clear c6
 try clear c6b0
 try clear hcz5_0
 try clear hcz5_1
 try clear hcz7_0
 try clear hcz7_1
 try clear hcz8_0
 try clear hcz8_1
 try clear hfz5_0
 try clear hfz5_1
 try clear hfz7_0
 try clear hfz7_1
 try clear hfz8_0
 try clear hfz8_1
 obtain ⟨kq, x18_1, rfl, HA, HJ1, BK125, HB⟩ := hcut
 rcases kq with _ | kj1
 · exact absurd HA.out (by simp [carcanetref03_Right.j0])
 have H := HA.out
 clear HA
 simp only [carcanetref03_Right.j0] at H
 by_cases c9 : x18_1 = true
 · subst c9
   have H1 : (some false) = some r := by rw [if_pos rfl] at H; exact H
   clear H
   have H := H1
   clear H1
   obtain rfl := Option.some.inj H
   go_wp2
   repeat (go_quiet (fail); try go_wp2)
   go_ret
   exact ⟨by first | rfl | (simp [errW_none, errW_some] <;> rfl) | (simp [*, errW_none, errW_some] <;> rfl), by repeat (first | (with_reducible first | exact HB.out | apply below_alloc | apply pw_below_drewN | apply below_drew1 | refine below_set ?_ GE125.out) | exact HB.out)⟩
 replace c9 := Bool.eq_false_iff.mpr c9
 subst c9
 have H1 : (carcanetref03_Right.l0 kj1 0 a0_0 l0_1) = some r := by rw [if_neg (show ¬ (false = true) by decide)] at H; exact H
 clear H
 have H := H1
 clear H1
 have H' := Aside0.mk H
 clear H
 go_wp2
 repeat (go_quiet (fail); try go_wp2)
 go_loopg [3] kj1 (fun kq v3 w' => ∃ (x3_2 : Int), v3 = .int .i64 x3_2 ∧ Aside0 (carcanetref03_Right.l0 kq x3_2 a0_0 l0_1 = some r) ∧ Aside0 (kq ≤ kj1) ∧ Aside0 (w'.heap[gb125]? = some (.cells #[.int .i64 a0_0, (.slice A0_1 l0_1.length c0_1)] 24 (0, 0))) ∧ Aside0 (Below w.heap.size w w'))
 case atStart => exact ⟨(0), (by first | rfl | (simp; done) | (simp [*]; done)), H', ⟨Nat.le_refl _⟩, ⟨by (with_reducible repeat (first | refine blk_drewN ?_ _ | refine blk_drew ?_ | refine blk_alloc ?_ _)); exact BK125.out⟩, ⟨by repeat (first | (with_reducible first | exact HB.out | apply below_alloc | apply pw_below_drewN | apply below_drew1 | refine below_set ?_ GE125.out) | exact HB.out)⟩⟩
 clear H'
 try clear p2
 try clear c3
 try clear c4
 try clear c4b0
 try clear c6
 try clear c6b0
 try clear c9
 try clear hcz5_0
 try clear hcz5_1
 try clear hcz7_0
 try clear hcz7_1
 try clear hcz8_0
 try clear hcz8_1
 try clear hfz5_0
 try clear hfz5_1
 try clear hfz7_0
 try clear hfz7_1
 try clear hfz8_0
 try clear hfz8_1
 try clear p2
 obtain ⟨x3_2, rfl, HA, HK2, BK125, HB⟩ := hrel
 rcases gk with _ | k2
 · exact absurd HA.out (by simp [carcanetref03_Right.l0])
 have H := HA.out
 clear HA
 simp only [carcanetref03_Right.l0] at H
 by_cases c10 : x3_2 < (l0_1.length : Int)
 rotate_left
 · rw [if_neg c10] at H
   have c10b0 : decide (x3_2 < (l0_1.length : Int)) = false := decide_eq_false c10
   clear c10
   obtain rfl := Option.some.inj H
   have hcz47_0 : wr.cell? ⟨gb125, 0, none⟩ = some (.int .i64 a0_0) := (blk_cell BK125.out 0).trans rfl
   have hcz47_1 : wr.cell? ⟨gb125, 1, none⟩ = some (.slice A0_1 l0_1.length c0_1) := (blk_cell BK125.out 1).trans rfl
   have hfz47_0 := blk_frozen BK125.out 0
   have hfz47_1 := blk_frozen BK125.out 1
   go_wp2
   repeat (go_quiet (fail); try go_wp2)
   go_ret
   exact ⟨by first | rfl | (simp [errW_none, errW_some] <;> rfl) | (simp [*, errW_none, errW_some] <;> rfl), by repeat (first | (with_reducible first | exact HB.out | apply below_alloc | apply pw_below_drewN | apply below_drew1 | refine below_set ?_ GE125.out) | exact HB.out)⟩
 rw [if_pos c10] at H
 have c10b0 : decide (x3_2 < (l0_1.length : Int)) = true := decide_eq_true c10
 clear c10
 by_cases c11 : 0 ≤ x3_2
 rotate_left
 · rw [if_neg c11] at H
   exact absurd H (by simp)
 rw [if_pos c11] at H
 have c11b0 : decide (0 ≤ x3_2) = true := decide_eq_true c11
 clear c11
 have HC12 := Aside0.mk H
 clear H
 have hcz13_0 : wr.cell? ⟨gb125, 0, none⟩ = some (.int .i64 a0_0) := (blk_cell BK125.out 0).trans rfl
 have hcz13_1 : wr.cell? ⟨gb125, 1, none⟩ = some (.slice A0_1 l0_1.length c0_1) := (blk_cell BK125.out 1).trans rfl
 have hfz13_0 := blk_frozen BK125.out 0
 have hfz13_1 := blk_frozen BK125.out 1
 have p126 : 0 ≤ (x3_2 : Int) := of_decide_eq_true (by first | (with_reducible assumption) | assumption)
 have q126 : x3_2 < (l0_1.length : Int) := of_decide_eq_true (by first | (with_reducible assumption) | assumption)
 obtain ⟨ad126, e126, hx126_0, hx126_1⟩ := at_T46 HR0_1.out x3_2 p126 q126
 cases e126
 replace hx126_0 := (HB.out.cell (World.block_lt_of_cell? w _ hx126_0)).trans hx126_0
 replace hx126_1 := (HB.out.cell (World.block_lt_of_cell? w _ hx126_1)).trans hx126_1
 replace p126 := eq_true p126
 replace q126 := eq_true q126
 go_upto_region 7 with (first | ((with_reducible refine gate_dst (N := 4) rfl ?_); (try (refine gate_guard (by rfl) ?_; dsimp only)); refine box_event ?hg (N := 4) ?hd (cs := #[.int .i64 0, .int .i64 0]) (t := 46) ?hr ?_; (case hd => rfl); (case hg => rfl); (case hr => first | (go_simp; done) | (go_simp; rfl)); intro gb127 hg w14 hbox hb; have n0_ := Aside0.mk (blk_below (g := gb125) (o := .cells #[.int .i64 a0_0, .slice (some ad126) l0_1.length c0_1] 24 (0, 0)) (by (with_reducible repeat (first | refine blk_drewN ?_ _ | refine blk_drew ?_ | refine blk_alloc ?_ _)); exact BK125.out) hb); have n1_ := Aside0.mk (below_step (by repeat (first | (with_reducible first | exact HB.out | apply below_alloc | apply pw_below_drewN | apply below_drew1 | refine below_set ?_ GE125.out) | exact HB.out)) hb); have n2_ := Aside0.mk (hbox); have n3_ := Aside0.mk ((by rw [hg]; exact (below_size (by repeat (first | (with_reducible first | exact HB.out | apply below_alloc | apply pw_below_drewN | apply below_drew1 | refine below_set ?_ GE125.out) | exact HB.out))) : w.heap.size ≤ gb127)); have n4_ := Aside0.mk ((by rw [hg]; exact (below_size (by repeat (first | (with_reducible first | exact HB.out | apply below_alloc | apply pw_below_drewN | apply below_drew1 | refine below_set ?_ GE125.out) | exact HB.out))) : w.heap.size ≤ gb127)); have n5_ := Aside0.mk ((by rw [hg]; exact Nat.ne_of_lt (blk_lt (g := gb125) (o := .cells #[.int .i64 a0_0, .slice (some ad126) l0_1.length c0_1] 24 (0, 0)) (by (with_reducible repeat (first | refine blk_drewN ?_ _ | refine blk_drew ?_ | refine blk_alloc ?_ _)); exact BK125.out)) : gb125 ≠ gb127)); have n6_ := Aside0.mk ((by rw [hg]; exact Nat.ne_of_gt (blk_lt (g := gb125) (o := .cells #[.int .i64 a0_0, .slice (some ad126) l0_1.length c0_1] 24 (0, 0)) (by (with_reducible repeat (first | refine blk_drewN ?_ _ | refine blk_drew ?_ | refine blk_alloc ?_ _)); exact BK125.out)) : gb127 ≠ gb125)); clear BK125; clear HB; have BK125 := n0_; have HB := n1_; have BK127 := n2_; have GW127 := n3_; have GE127 := n4_; have NB125_127 := n5_; have NB127_125 := n6_; clear n0_ n1_ n2_ n3_ n4_ n5_ n6_; clear hb hbox hg; have hnb15 := NB127_125.out; have hnc15 := NB125_127.out; have hcz16_0 : w14.cell? ⟨gb127, 0, none⟩ = some (.int .i64 0) := (blk_cell BK127.out 0).trans rfl; have hcz16_1 : w14.cell? ⟨gb127, 1, none⟩ = some (.int .i64 0) := (blk_cell BK127.out 1).trans rfl; have hfz16_0 := blk_frozen BK127.out 0; have hfz16_1 := blk_frozen BK127.out 1))
 repeat (go_quiet (first | ((with_reducible refine gate_dst (N := 4) rfl ?_); (try (refine gate_guard (by rfl) ?_; dsimp only)); refine box_event ?hg (N := 4) ?hd (cs := #[.int .i64 0, .int .i64 0]) (t := 46) ?hr ?_; (case hd => rfl); (case hg => rfl); (case hr => first | (go_simp; done) | (go_simp; rfl)); intro gb127 hg w14 hbox hb; have n0_ := Aside0.mk (blk_below (g := gb125) (o := .cells #[.int .i64 a0_0, .slice (some ad126) l0_1.length c0_1] 24 (0, 0)) (by (with_reducible repeat (first | refine blk_drewN ?_ _ | refine blk_drew ?_ | refine blk_alloc ?_ _)); exact BK125.out) hb); have n1_ := Aside0.mk (below_step (by repeat (first | (with_reducible first | exact HB.out | apply below_alloc | apply pw_below_drewN | apply below_drew1 | refine below_set ?_ GE125.out) | exact HB.out)) hb); have n2_ := Aside0.mk (hbox); have n3_ := Aside0.mk ((by rw [hg]; exact (below_size (by repeat (first | (with_reducible first | exact HB.out | apply below_alloc | apply pw_below_drewN | apply below_drew1 | refine below_set ?_ GE125.out) | exact HB.out))) : w.heap.size ≤ gb127)); have n4_ := Aside0.mk ((by rw [hg]; exact (below_size (by repeat (first | (with_reducible first | exact HB.out | apply below_alloc | apply pw_below_drewN | apply below_drew1 | refine below_set ?_ GE125.out) | exact HB.out))) : w.heap.size ≤ gb127)); have n5_ := Aside0.mk ((by rw [hg]; exact Nat.ne_of_lt (blk_lt (g := gb125) (o := .cells #[.int .i64 a0_0, .slice (some ad126) l0_1.length c0_1] 24 (0, 0)) (by (with_reducible repeat (first | refine blk_drewN ?_ _ | refine blk_drew ?_ | refine blk_alloc ?_ _)); exact BK125.out)) : gb125 ≠ gb127)); have n6_ := Aside0.mk ((by rw [hg]; exact Nat.ne_of_gt (blk_lt (g := gb125) (o := .cells #[.int .i64 a0_0, .slice (some ad126) l0_1.length c0_1] 24 (0, 0)) (by (with_reducible repeat (first | refine blk_drewN ?_ _ | refine blk_drew ?_ | refine blk_alloc ?_ _)); exact BK125.out)) : gb127 ≠ gb125)); clear BK125; clear HB; have BK125 := n0_; have HB := n1_; have BK127 := n2_; have GW127 := n3_; have GE127 := n4_; have NB125_127 := n5_; have NB127_125 := n6_; clear n0_ n1_ n2_ n3_ n4_ n5_ n6_; clear hb hbox hg; have hnb15 := NB127_125.out; have hnc15 := NB125_127.out; have hcz16_0 : w14.cell? ⟨gb127, 0, none⟩ = some (.int .i64 0) := (blk_cell BK127.out 0).trans rfl; have hcz16_1 : w14.cell? ⟨gb127, 1, none⟩ = some (.int .i64 0) := (blk_cell BK127.out 1).trans rfl; have hfz16_0 := blk_frozen BK127.out 0; have hfz16_1 := blk_frozen BK127.out 1)); go_upto_region 7 with (first | ((with_reducible refine gate_dst (N := 4) rfl ?_); (try (refine gate_guard (by rfl) ?_; dsimp only)); refine box_event ?hg (N := 4) ?hd (cs := #[.int .i64 0, .int .i64 0]) (t := 46) ?hr ?_; (case hd => rfl); (case hg => rfl); (case hr => first | (go_simp; done) | (go_simp; rfl)); intro gb127 hg w14 hbox hb; have n0_ := Aside0.mk (blk_below (g := gb125) (o := .cells #[.int .i64 a0_0, .slice (some ad126) l0_1.length c0_1] 24 (0, 0)) (by (with_reducible repeat (first | refine blk_drewN ?_ _ | refine blk_drew ?_ | refine blk_alloc ?_ _)); exact BK125.out) hb); have n1_ := Aside0.mk (below_step (by repeat (first | (with_reducible first | exact HB.out | apply below_alloc | apply pw_below_drewN | apply below_drew1 | refine below_set ?_ GE125.out) | exact HB.out)) hb); have n2_ := Aside0.mk (hbox); have n3_ := Aside0.mk ((by rw [hg]; exact (below_size (by repeat (first | (with_reducible first | exact HB.out | apply below_alloc | apply pw_below_drewN | apply below_drew1 | refine below_set ?_ GE125.out) | exact HB.out))) : w.heap.size ≤ gb127)); have n4_ := Aside0.mk ((by rw [hg]; exact (below_size (by repeat (first | (with_reducible first | exact HB.out | apply below_alloc | apply pw_below_drewN | apply below_drew1 | refine below_set ?_ GE125.out) | exact HB.out))) : w.heap.size ≤ gb127)); have n5_ := Aside0.mk ((by rw [hg]; exact Nat.ne_of_lt (blk_lt (g := gb125) (o := .cells #[.int .i64 a0_0, .slice (some ad126) l0_1.length c0_1] 24 (0, 0)) (by (with_reducible repeat (first | refine blk_drewN ?_ _ | refine blk_drew ?_ | refine blk_alloc ?_ _)); exact BK125.out)) : gb125 ≠ gb127)); have n6_ := Aside0.mk ((by rw [hg]; exact Nat.ne_of_gt (blk_lt (g := gb125) (o := .cells #[.int .i64 a0_0, .slice (some ad126) l0_1.length c0_1] 24 (0, 0)) (by (with_reducible repeat (first | refine blk_drewN ?_ _ | refine blk_drew ?_ | refine blk_alloc ?_ _)); exact BK125.out)) : gb127 ≠ gb125)); clear BK125; clear HB; have BK125 := n0_; have HB := n1_; have BK127 := n2_; have GW127 := n3_; have GE127 := n4_; have NB125_127 := n5_; have NB127_125 := n6_; clear n0_ n1_ n2_ n3_ n4_ n5_ n6_; clear hb hbox hg; have hnb15 := NB127_125.out; have hnc15 := NB125_127.out; have hcz16_0 : w14.cell? ⟨gb127, 0, none⟩ = some (.int .i64 0) := (blk_cell BK127.out 0).trans rfl; have hcz16_1 : w14.cell? ⟨gb127, 1, none⟩ = some (.int .i64 0) := (blk_cell BK127.out 1).trans rfl; have hfz16_0 := blk_frozen BK127.out 0; have hfz16_1 := blk_frozen BK127.out 1)))
 (try simp only [Act.put, List.setIfInBounds_toArray, List.set_cons_zero, List.set_cons_succ])
 go_cut [47] (fun v47 wc => ∃ (kq : Nat) (x47_11 : Bool), v47 = .bool x47_11 ∧ Aside0 (carcanetref03_Right.j2 kq x3_2 x47_11 a0_0 l0_1 ((rd_T46 l0_1 x3_2).f0) ((rd_T46 l0_1 x3_2).f1) = some r) ∧ Aside0 (kq ≤ k2) ∧ Aside0 (wc.heap[gb125]? = some (.cells #[.int .i64 a0_0, (.slice (some ad126) l0_1.length c0_1)] 24 (0, 0))) ∧ Aside0 (wc.heap[gb127]? = some (.cells #[.int .i64 ((rd_T46 l0_1 x3_2).f0), .int .i64 ((rd_T46 l0_1 x3_2).f1)] 46 (0, 0))) ∧ Aside0 (Below w.heap.size w wc))
 case first =>
  have H := HC12.out
  clear HC12
  by_cases c17 : ((rd_T46 l0_1 x3_2).f0) < 0
  · rw [if_pos c17] at H
    have c17b0 : decide (((rd_T46 l0_1 x3_2).f0) < 0) = true := decide_eq_true c17
    clear c17
    (first | rw [c17b0] | (simp only [i64_w, i32_w]; rw [c17b0]) | skip)
    have H' := Aside0.mk H
    clear H
    have hnb18 := NB127_125.out
    have hnc18 := NB125_127.out
    have hcz19_0 : w14.cell? ⟨gb127, 0, none⟩ = some (.int .i64 0) := (blk_cell BK127.out 0).trans rfl
    have hcz19_1 : w14.cell? ⟨gb127, 1, none⟩ = some (.int .i64 0) := (blk_cell BK127.out 1).trans rfl
    have hfz19_0 := blk_frozen BK127.out 0
    have hfz19_1 := blk_frozen BK127.out 1
    go_wp2
    repeat (go_quiet (fail); try go_wp2)
    go_meet
    exact ⟨_, (true), (by first | rfl | (simp; done) | (simp [*]; done)), H', ⟨by have := HJ1.out; have := HK2.out; first | omega | exact Nat.le_refl _⟩, ⟨by (with_reducible repeat (first | refine blk_drewN ?_ _ | refine blk_drew ?_ | refine blk_alloc ?_ _)); refine blk_far ?_ NB125_127.out _; (with_reducible repeat (first | refine blk_drewN ?_ _ | refine blk_drew ?_ | refine blk_alloc ?_ _)); refine blk_far ?_ NB125_127.out _; (with_reducible repeat (first | refine blk_drewN ?_ _ | refine blk_drew ?_ | refine blk_alloc ?_ _)); exact BK125.out⟩, ⟨by (with_reducible repeat (first | refine blk_drewN ?_ _ | refine blk_drew ?_ | refine blk_alloc ?_ _)); refine blk_put (cs := #[.int .i64 ((rd_T46 l0_1 x3_2).f0), .int .i64 0]) ?_ 1 _ rfl; (with_reducible repeat (first | refine blk_drewN ?_ _ | refine blk_drew ?_ | refine blk_alloc ?_ _)); refine blk_put (cs := #[.int .i64 0, .int .i64 0]) ?_ 0 _ rfl; (with_reducible repeat (first | refine blk_drewN ?_ _ | refine blk_drew ?_ | refine blk_alloc ?_ _)); exact BK127.out⟩, ⟨by repeat (first | (with_reducible first | exact HB.out | apply below_alloc | apply pw_below_drewN | apply below_drew1 | refine below_set ?_ GE125.out | refine below_set ?_ GE127.out) | exact HB.out)⟩⟩
  rw [if_neg c17] at H
  have c17b0 : decide (((rd_T46 l0_1 x3_2).f0) < 0) = false := decide_eq_false c17
  clear c17
  (first | rw [c17b0] | (simp only [i64_w, i32_w]; rw [c17b0]) | skip)
  by_cases c20 : ((rd_T46 l0_1 x3_2).f1) ≥ a0_0
  · rw [if_pos c20] at H
    have c20b0 : decide (a0_0 ≤ ((rd_T46 l0_1 x3_2).f1)) = true := decide_eq_true c20
    clear c20
    have H' := Aside0.mk H
    clear H
    have hnb21 := NB127_125.out
    have hnc21 := NB125_127.out
    have hcz22_0 : w14.cell? ⟨gb127, 0, none⟩ = some (.int .i64 0) := (blk_cell BK127.out 0).trans rfl
    have hcz22_1 : w14.cell? ⟨gb127, 1, none⟩ = some (.int .i64 0) := (blk_cell BK127.out 1).trans rfl
    have hfz22_0 := blk_frozen BK127.out 0
    have hfz22_1 := blk_frozen BK127.out 1
    have hcz23_0 : w14.cell? ⟨gb125, 0, none⟩ = some (.int .i64 a0_0) := (blk_cell BK125.out 0).trans rfl
    have hcz23_1 : w14.cell? ⟨gb125, 1, none⟩ = some (.slice (some ad126) l0_1.length c0_1) := (blk_cell BK125.out 1).trans rfl
    have hfz23_0 := blk_frozen BK125.out 0
    have hfz23_1 := blk_frozen BK125.out 1
    go_wp2
    repeat (go_quiet (fail); try go_wp2)
    go_meet
    exact ⟨_, (true), (by first | rfl | (simp; done) | (simp [*]; done)), H', ⟨by have := HJ1.out; have := HK2.out; first | omega | exact Nat.le_refl _⟩, ⟨by (with_reducible repeat (first | refine blk_drewN ?_ _ | refine blk_drew ?_ | refine blk_alloc ?_ _)); refine blk_far ?_ NB125_127.out _; (with_reducible repeat (first | refine blk_drewN ?_ _ | refine blk_drew ?_ | refine blk_alloc ?_ _)); refine blk_far ?_ NB125_127.out _; (with_reducible repeat (first | refine blk_drewN ?_ _ | refine blk_drew ?_ | refine blk_alloc ?_ _)); exact BK125.out⟩, ⟨by (with_reducible repeat (first | refine blk_drewN ?_ _ | refine blk_drew ?_ | refine blk_alloc ?_ _)); refine blk_put (cs := #[.int .i64 ((rd_T46 l0_1 x3_2).f0), .int .i64 0]) ?_ 1 _ rfl; (with_reducible repeat (first | refine blk_drewN ?_ _ | refine blk_drew ?_ | refine blk_alloc ?_ _)); refine blk_put (cs := #[.int .i64 0, .int .i64 0]) ?_ 0 _ rfl; (with_reducible repeat (first | refine blk_drewN ?_ _ | refine blk_drew ?_ | refine blk_alloc ?_ _)); exact BK127.out⟩, ⟨by repeat (first | (with_reducible first | exact HB.out | apply below_alloc | apply pw_below_drewN | apply below_drew1 | refine below_set ?_ GE125.out | refine below_set ?_ GE127.out) | exact HB.out)⟩⟩
  rw [if_neg c20] at H
  have c20b0 : decide (a0_0 ≤ ((rd_T46 l0_1 x3_2).f1)) = false := decide_eq_false c20
  clear c20
  have H' := Aside0.mk H
  clear H
  have hnb24 := NB127_125.out
  have hnc24 := NB125_127.out
  have hcz25_0 : w14.cell? ⟨gb127, 0, none⟩ = some (.int .i64 0) := (blk_cell BK127.out 0).trans rfl
  have hcz25_1 : w14.cell? ⟨gb127, 1, none⟩ = some (.int .i64 0) := (blk_cell BK127.out 1).trans rfl
  have hfz25_0 := blk_frozen BK127.out 0
  have hfz25_1 := blk_frozen BK127.out 1
  have hcz26_0 : w14.cell? ⟨gb125, 0, none⟩ = some (.int .i64 a0_0) := (blk_cell BK125.out 0).trans rfl
  have hcz26_1 : w14.cell? ⟨gb125, 1, none⟩ = some (.slice (some ad126) l0_1.length c0_1) := (blk_cell BK125.out 1).trans rfl
  have hfz26_0 := blk_frozen BK125.out 0
  have hfz26_1 := blk_frozen BK125.out 1
  go_wp2
  repeat (go_quiet (fail); try go_wp2)
  go_meet
  exact ⟨_, (decide (((rd_T46 l0_1 x3_2).f0) ≥ ((rd_T46 l0_1 x3_2).f1))), (by first | rfl | (simp; done) | (simp [*]; done)), H', ⟨by have := HJ1.out; have := HK2.out; first | omega | exact Nat.le_refl _⟩, ⟨by (with_reducible repeat (first | refine blk_drewN ?_ _ | refine blk_drew ?_ | refine blk_alloc ?_ _)); refine blk_far ?_ NB125_127.out _; (with_reducible repeat (first | refine blk_drewN ?_ _ | refine blk_drew ?_ | refine blk_alloc ?_ _)); refine blk_far ?_ NB125_127.out _; (with_reducible repeat (first | refine blk_drewN ?_ _ | refine blk_drew ?_ | refine blk_alloc ?_ _)); exact BK125.out⟩, ⟨by (with_reducible repeat (first | refine blk_drewN ?_ _ | refine blk_drew ?_ | refine blk_alloc ?_ _)); refine blk_put (cs := #[.int .i64 ((rd_T46 l0_1 x3_2).f0), .int .i64 0]) ?_ 1 _ rfl; (with_reducible repeat (first | refine blk_drewN ?_ _ | refine blk_drew ?_ | refine blk_alloc ?_ _)); refine blk_put (cs := #[.int .i64 0, .int .i64 0]) ?_ 0 _ rfl; (with_reducible repeat (first | refine blk_drewN ?_ _ | refine blk_drew ?_ | refine blk_alloc ?_ _)); exact BK127.out⟩, ⟨by repeat (first | (with_reducible first | exact HB.out | apply below_alloc | apply pw_below_drewN | apply below_drew1 | refine below_set ?_ GE125.out | refine below_set ?_ GE127.out) | exact HB.out)⟩⟩
 clear HC12
 try clear c1
 try clear p1
 try clear q1
 try clear hx1
 try clear c2
 try clear p2
 try clear c3
 try clear c4
 try clear c4b0
 try clear c6
 try clear c6b0
 try clear c9
 try clear c10
 try clear c10b0
 try clear c11
 try clear c11b0
 try clear p12
 try clear q12
 try clear hx12
 try clear c15
 try clear c17
 try clear c17b0
 try clear c18
 try clear c20
 try clear c20b0
 try clear c21
 try clear c24
 try clear hcz13_0
 try clear hcz13_1
 try clear hcz16_0
 try clear hcz16_1
 try clear hcz19_0
 try clear hcz19_1
 try clear hcz22_0
 try clear hcz22_1
 try clear hcz23_0
 try clear hcz23_1
 try clear hcz25_0
 try clear hcz25_1
 try clear hcz26_0
 try clear hcz26_1
 try clear hcz5_0
 try clear hcz5_1
 try clear hcz7_0
 try clear hcz7_1
 try clear hcz8_0
 try clear hcz8_1
 try clear hfz13_0
 try clear hfz13_1
 try clear hfz16_0
 try clear hfz16_1
 try clear hfz19_0
 try clear hfz19_1
 try clear hfz22_0
 try clear hfz22_1
 try clear hfz23_0
 try clear hfz23_1
 try clear hfz25_0
 try clear hfz25_1
 try clear hfz26_0
 try clear hfz26_1
 try clear hfz5_0
 try clear hfz5_1
 try clear hfz7_0
 try clear hfz7_1
 try clear hfz8_0
 try clear hfz8_1
 try clear hx126_0
 try clear hx126_1
 try clear p126
 try clear p2
 try clear q126
 obtain ⟨kq, x47_11, rfl, HA, HJ11, BK125, BK127, HB⟩ := hcut
 rcases kq with _ | kj11
 · exact absurd HA.out (by simp [carcanetref03_Right.j2])
 have H := HA.out
 clear HA
 simp only [carcanetref03_Right.j2] at H
 by_cases c27 : x47_11 = true
 · subst c27
   have H1 : (some false) = some r := by rw [if_pos rfl] at H; exact H
   clear H
   have H := H1
   clear H1
   obtain rfl := Option.some.inj H
   go_wp2
   repeat (go_quiet (fail); try go_wp2)
   go_ret
   exact ⟨by first | rfl | (simp [errW_none, errW_some] <;> rfl) | (simp [*, errW_none, errW_some] <;> rfl), by repeat (first | (with_reducible first | exact HB.out | apply below_alloc | apply pw_below_drewN | apply below_drew1 | refine below_set ?_ GE125.out | refine below_set ?_ GE127.out) | exact HB.out)⟩
 replace c27 := Bool.eq_false_iff.mpr c27
 subst c27
 have H1 : (if x3_2 > 0 then (if 0 ≤ (wrap64 (x3_2 - 1)) then (if (wrap64 (x3_2 - 1)) < (l0_1.length : Int) then (if ((rd_T46 l0_1 (wrap64 (x3_2 - 1))).f0) > ((rd_T46 l0_1 x3_2).f0) then (some false) else (if ((rd_T46 l0_1 (wrap64 (x3_2 - 1))).f0) = ((rd_T46 l0_1 x3_2).f0) then (if ((rd_T46 l0_1 (wrap64 (x3_2 - 1))).f1) ≥ ((rd_T46 l0_1 x3_2).f1) then (some false) else (carcanetref03_Right.l0 kj11 (wrap64 (x3_2 + 1)) a0_0 l0_1)) else (carcanetref03_Right.l0 kj11 (wrap64 (x3_2 + 1)) a0_0 l0_1))) else (none)) else (none)) else (carcanetref03_Right.l0 kj11 (wrap64 (x3_2 + 1)) a0_0 l0_1)) = some r := by rw [if_neg (show ¬ (false = true) by decide)] at H; exact H
 clear H
 have H := H1
 clear H1
 by_cases c28 : x3_2 > 0
 rotate_left
 · rw [if_neg c28] at H
   have c28b0 : decide (0 < x3_2) = false := decide_eq_false c28
   clear c28
   have H' := Aside0.mk H
   clear H
   go_wp2
   repeat (go_quiet (fail); try go_wp2)
   go_roundg kj11
   case measure => have := HJ1.out; have := HK2.out; have := HJ11.out; omega
   exact ⟨(wrap64 (x3_2 + 1)), (by first | rfl | (simp; done) | (simp [*]; done)), H', ⟨by have := HJ1.out; have := HK2.out; have := HJ11.out; omega⟩, ⟨by (with_reducible repeat (first | refine blk_drewN ?_ _ | refine blk_drew ?_ | refine blk_alloc ?_ _)); exact BK125.out⟩, ⟨by repeat (first | (with_reducible first | exact HB.out | apply below_alloc | apply pw_below_drewN | apply below_drew1 | refine below_set ?_ GE125.out | refine below_set ?_ GE127.out) | exact HB.out)⟩⟩
 rw [if_pos c28] at H
 have c28b0 : decide (0 < x3_2) = true := decide_eq_true c28
 clear c28
 obtain ⟨ji29, hji29⟩ : ∃ j_ : Int, (wrap64 (x3_2 - 1)) = j_ := ⟨_, rfl⟩
 replace H : (if 0 ≤ (ji29) then (if (ji29) < (l0_1.length : Int) then (if ((rd_T46 l0_1 (ji29)).f0) > ((rd_T46 l0_1 x3_2).f0) then (some false) else (if ((rd_T46 l0_1 (ji29)).f0) = ((rd_T46 l0_1 x3_2).f0) then (if ((rd_T46 l0_1 (ji29)).f1) ≥ ((rd_T46 l0_1 x3_2).f1) then (some false) else (carcanetref03_Right.l0 kj11 (wrap64 (x3_2 + 1)) a0_0 l0_1)) else (carcanetref03_Right.l0 kj11 (wrap64 (x3_2 + 1)) a0_0 l0_1))) else (none)) else (none)) = some r := by first | (rw [hji29] at H; exact H) | (simp only [hji29] at H ⊢; exact H)
 have hji29w : (IntKind.i64.wrap (x3_2 - 1)) = ji29 := (i64_w _).trans hji29
 by_cases c30 : 0 ≤ (ji29)
 rotate_left
 · rw [if_neg c30] at H
   exact absurd H (by simp)
 rw [if_pos c30] at H
 have c30b0 : decide (0 ≤ (ji29)) = true := decide_eq_true c30
 clear c30
 by_cases c31 : (ji29) < (l0_1.length : Int)
 rotate_left
 · rw [if_neg c31] at H
   exact absurd H (by simp)
 rw [if_pos c31] at H
 have c31b0 : decide ((ji29) < (l0_1.length : Int)) = true := decide_eq_true c31
 clear c31
 by_cases c32 : ((rd_T46 l0_1 (ji29)).f0) > ((rd_T46 l0_1 x3_2).f0)
 · rw [if_pos c32] at H
   have c32b0 : decide (((rd_T46 l0_1 x3_2).f0) < ((rd_T46 l0_1 (ji29)).f0)) = true := decide_eq_true c32
   clear c32
   obtain rfl := Option.some.inj H
   have hnb33 := NB125_127.out
   have hnc33 := NB127_125.out
   have hcz34_0 : wc.cell? ⟨gb125, 0, none⟩ = some (.int .i64 a0_0) := (blk_cell BK125.out 0).trans rfl
   have hcz34_1 : wc.cell? ⟨gb125, 1, none⟩ = some (.slice (some ad126) l0_1.length c0_1) := (blk_cell BK125.out 1).trans rfl
   have hfz34_0 := blk_frozen BK125.out 0
   have hfz34_1 := blk_frozen BK125.out 1
   have p128 : 0 ≤ ((ji29) : Int) := of_decide_eq_true (by first | (with_reducible assumption) | assumption)
   have q128 : (ji29) < (l0_1.length : Int) := of_decide_eq_true (by first | (with_reducible assumption) | assumption)
   obtain ⟨ad128, e128, hx128_0, hx128_1⟩ := at_T46 HR0_1.out (ji29) p128 q128
   obtain rfl : ad126 = ad128 := (by injection e128)
   replace hx128_0 := (HB.out.cell (World.block_lt_of_cell? w _ hx128_0)).trans hx128_0
   replace hx128_1 := (HB.out.cell (World.block_lt_of_cell? w _ hx128_1)).trans hx128_1
   replace p128 := eq_true p128
   replace q128 := eq_true q128
   have hcz35_0 : wc.cell? ⟨gb127, 0, none⟩ = some (.int .i64 ((rd_T46 l0_1 x3_2).f0)) := (blk_cell BK127.out 0).trans rfl
   have hcz35_1 : wc.cell? ⟨gb127, 1, none⟩ = some (.int .i64 ((rd_T46 l0_1 x3_2).f1)) := (blk_cell BK127.out 1).trans rfl
   have hfz35_0 := blk_frozen BK127.out 0
   have hfz35_1 := blk_frozen BK127.out 1
   go_wp2
   repeat (go_quiet (fail); try go_wp2)
   go_ret
   exact ⟨by first | rfl | (simp [errW_none, errW_some] <;> rfl) | (simp only [← hji29]; first | rfl | (simp [errW_none, errW_some] <;> rfl)) | (simp [*, errW_none, errW_some] <;> rfl), by repeat (first | (with_reducible first | exact HB.out | apply below_alloc | apply pw_below_drewN | apply below_drew1 | refine below_set ?_ GE125.out | refine below_set ?_ GE127.out) | exact HB.out)⟩
 rw [if_neg c32] at H
 have c32b0 : decide (((rd_T46 l0_1 x3_2).f0) < ((rd_T46 l0_1 (ji29)).f0)) = false := decide_eq_false c32
 clear c32
 by_cases c36 : ((rd_T46 l0_1 (ji29)).f0) = ((rd_T46 l0_1 x3_2).f0)
 rotate_left
 · rw [if_neg c36] at H
   have c36b0 : (((rd_T46 l0_1 (ji29)).f0) == ((rd_T46 l0_1 x3_2).f0)) = false := beq_eq_false_iff_ne.mpr c36
   have c36b1 : (((rd_T46 l0_1 (ji29)).f0) != ((rd_T46 l0_1 x3_2).f0)) = true := bne_iff_ne.mpr c36
   have H' := Aside0.mk H
   clear H
   have hnb44 := NB125_127.out
   have hnc44 := NB127_125.out
   have hcz45_0 : wc.cell? ⟨gb125, 0, none⟩ = some (.int .i64 a0_0) := (blk_cell BK125.out 0).trans rfl
   have hcz45_1 : wc.cell? ⟨gb125, 1, none⟩ = some (.slice (some ad126) l0_1.length c0_1) := (blk_cell BK125.out 1).trans rfl
   have hfz45_0 := blk_frozen BK125.out 0
   have hfz45_1 := blk_frozen BK125.out 1
   have p128 : 0 ≤ ((ji29) : Int) := of_decide_eq_true (by first | (with_reducible assumption) | assumption)
   have q128 : (ji29) < (l0_1.length : Int) := of_decide_eq_true (by first | (with_reducible assumption) | assumption)
   obtain ⟨ad128, e128, hx128_0, hx128_1⟩ := at_T46 HR0_1.out (ji29) p128 q128
   obtain rfl : ad126 = ad128 := (by injection e128)
   replace hx128_0 := (HB.out.cell (World.block_lt_of_cell? w _ hx128_0)).trans hx128_0
   replace hx128_1 := (HB.out.cell (World.block_lt_of_cell? w _ hx128_1)).trans hx128_1
   replace p128 := eq_true p128
   replace q128 := eq_true q128
   have hcz46_0 : wc.cell? ⟨gb127, 0, none⟩ = some (.int .i64 ((rd_T46 l0_1 x3_2).f0)) := (blk_cell BK127.out 0).trans rfl
   have hcz46_1 : wc.cell? ⟨gb127, 1, none⟩ = some (.int .i64 ((rd_T46 l0_1 x3_2).f1)) := (blk_cell BK127.out 1).trans rfl
   have hfz46_0 := blk_frozen BK127.out 0
   have hfz46_1 := blk_frozen BK127.out 1
   have p129 : 0 ≤ ((ji29) : Int) := of_decide_eq_true (by first | (with_reducible assumption) | assumption)
   have q129 : (ji29) < (l0_1.length : Int) := of_decide_eq_true (by first | (with_reducible assumption) | assumption)
   obtain ⟨ad129, e129, hx129_0, hx129_1⟩ := at_T46 HR0_1.out (ji29) p129 q129
   obtain rfl : ad126 = ad129 := (by injection e129)
   replace hx129_0 := (HB.out.cell (World.block_lt_of_cell? w _ hx129_0)).trans hx129_0
   replace hx129_1 := (HB.out.cell (World.block_lt_of_cell? w _ hx129_1)).trans hx129_1
   replace p129 := eq_true p129
   replace q129 := eq_true q129
   go_wp2
   repeat (go_quiet (fail); try go_wp2)
   go_roundg kj11
   case measure => have := HJ1.out; have := HK2.out; have := HJ11.out; omega
   exact ⟨(wrap64 (x3_2 + 1)), (by first | rfl | (simp; done) | (simp [*]; done)), H', ⟨by have := HJ1.out; have := HK2.out; have := HJ11.out; omega⟩, ⟨by (with_reducible repeat (first | refine blk_drewN ?_ _ | refine blk_drew ?_ | refine blk_alloc ?_ _)); exact BK125.out⟩, ⟨by repeat (first | (with_reducible first | exact HB.out | apply below_alloc | apply pw_below_drewN | apply below_drew1 | refine below_set ?_ GE125.out | refine below_set ?_ GE127.out) | exact HB.out)⟩⟩
 rw [if_pos c36] at H
 have c36b0 : (((rd_T46 l0_1 (ji29)).f0) == ((rd_T46 l0_1 x3_2).f0)) = true := beq_iff_eq.mpr c36
 have c36b1 : (((rd_T46 l0_1 (ji29)).f0) != ((rd_T46 l0_1 x3_2).f0)) = false := bne_eq_false_iff_eq.mpr c36
 clear c36
 by_cases c37 : ((rd_T46 l0_1 (ji29)).f1) ≥ ((rd_T46 l0_1 x3_2).f1)
 · rw [if_pos c37] at H
   have c37b0 : decide (((rd_T46 l0_1 x3_2).f1) ≤ ((rd_T46 l0_1 (ji29)).f1)) = true := decide_eq_true c37
   clear c37
   obtain rfl := Option.some.inj H
   have hnb38 := NB125_127.out
   have hnc38 := NB127_125.out
   have hcz39_0 : wc.cell? ⟨gb125, 0, none⟩ = some (.int .i64 a0_0) := (blk_cell BK125.out 0).trans rfl
   have hcz39_1 : wc.cell? ⟨gb125, 1, none⟩ = some (.slice (some ad126) l0_1.length c0_1) := (blk_cell BK125.out 1).trans rfl
   have hfz39_0 := blk_frozen BK125.out 0
   have hfz39_1 := blk_frozen BK125.out 1
   have p128 : 0 ≤ ((ji29) : Int) := of_decide_eq_true (by first | (with_reducible assumption) | assumption)
   have q128 : (ji29) < (l0_1.length : Int) := of_decide_eq_true (by first | (with_reducible assumption) | assumption)
   obtain ⟨ad128, e128, hx128_0, hx128_1⟩ := at_T46 HR0_1.out (ji29) p128 q128
   obtain rfl : ad126 = ad128 := (by injection e128)
   replace hx128_0 := (HB.out.cell (World.block_lt_of_cell? w _ hx128_0)).trans hx128_0
   replace hx128_1 := (HB.out.cell (World.block_lt_of_cell? w _ hx128_1)).trans hx128_1
   replace p128 := eq_true p128
   replace q128 := eq_true q128
   have hcz40_0 : wc.cell? ⟨gb127, 0, none⟩ = some (.int .i64 ((rd_T46 l0_1 x3_2).f0)) := (blk_cell BK127.out 0).trans rfl
   have hcz40_1 : wc.cell? ⟨gb127, 1, none⟩ = some (.int .i64 ((rd_T46 l0_1 x3_2).f1)) := (blk_cell BK127.out 1).trans rfl
   have hfz40_0 := blk_frozen BK127.out 0
   have hfz40_1 := blk_frozen BK127.out 1
   have p129 : 0 ≤ ((ji29) : Int) := of_decide_eq_true (by first | (with_reducible assumption) | assumption)
   have q129 : (ji29) < (l0_1.length : Int) := of_decide_eq_true (by first | (with_reducible assumption) | assumption)
   obtain ⟨ad129, e129, hx129_0, hx129_1⟩ := at_T46 HR0_1.out (ji29) p129 q129
   obtain rfl : ad126 = ad129 := (by injection e129)
   replace hx129_0 := (HB.out.cell (World.block_lt_of_cell? w _ hx129_0)).trans hx129_0
   replace hx129_1 := (HB.out.cell (World.block_lt_of_cell? w _ hx129_1)).trans hx129_1
   replace p129 := eq_true p129
   replace q129 := eq_true q129
   have p130 : 0 ≤ ((ji29) : Int) := of_decide_eq_true (by first | (with_reducible assumption) | assumption)
   have q130 : (ji29) < (l0_1.length : Int) := of_decide_eq_true (by first | (with_reducible assumption) | assumption)
   obtain ⟨ad130, e130, hx130_0, hx130_1⟩ := at_T46 HR0_1.out (ji29) p130 q130
   obtain rfl : ad126 = ad130 := (by injection e130)
   replace hx130_0 := (HB.out.cell (World.block_lt_of_cell? w _ hx130_0)).trans hx130_0
   replace hx130_1 := (HB.out.cell (World.block_lt_of_cell? w _ hx130_1)).trans hx130_1
   replace p130 := eq_true p130
   replace q130 := eq_true q130
   go_wp2
   repeat (go_quiet (fail); try go_wp2)
   go_ret
   exact ⟨by first | rfl | (simp [errW_none, errW_some] <;> rfl) | (simp only [← hji29]; first | rfl | (simp [errW_none, errW_some] <;> rfl)) | (simp [*, errW_none, errW_some] <;> rfl), by repeat (first | (with_reducible first | exact HB.out | apply below_alloc | apply pw_below_drewN | apply below_drew1 | refine below_set ?_ GE125.out | refine below_set ?_ GE127.out) | exact HB.out)⟩
 rw [if_neg c37] at H
 have c37b0 : decide (((rd_T46 l0_1 x3_2).f1) ≤ ((rd_T46 l0_1 (ji29)).f1)) = false := decide_eq_false c37
 clear c37
 have H' := Aside0.mk H
 clear H
 have hnb41 := NB125_127.out
 have hnc41 := NB127_125.out
 have hcz42_0 : wc.cell? ⟨gb125, 0, none⟩ = some (.int .i64 a0_0) := (blk_cell BK125.out 0).trans rfl
 have hcz42_1 : wc.cell? ⟨gb125, 1, none⟩ = some (.slice (some ad126) l0_1.length c0_1) := (blk_cell BK125.out 1).trans rfl
 have hfz42_0 := blk_frozen BK125.out 0
 have hfz42_1 := blk_frozen BK125.out 1
 have p128 : 0 ≤ ((ji29) : Int) := of_decide_eq_true (by first | (with_reducible assumption) | assumption)
 have q128 : (ji29) < (l0_1.length : Int) := of_decide_eq_true (by first | (with_reducible assumption) | assumption)
 obtain ⟨ad128, e128, hx128_0, hx128_1⟩ := at_T46 HR0_1.out (ji29) p128 q128
 obtain rfl : ad126 = ad128 := (by injection e128)
 replace hx128_0 := (HB.out.cell (World.block_lt_of_cell? w _ hx128_0)).trans hx128_0
 replace hx128_1 := (HB.out.cell (World.block_lt_of_cell? w _ hx128_1)).trans hx128_1
 replace p128 := eq_true p128
 replace q128 := eq_true q128
 have hcz43_0 : wc.cell? ⟨gb127, 0, none⟩ = some (.int .i64 ((rd_T46 l0_1 x3_2).f0)) := (blk_cell BK127.out 0).trans rfl
 have hcz43_1 : wc.cell? ⟨gb127, 1, none⟩ = some (.int .i64 ((rd_T46 l0_1 x3_2).f1)) := (blk_cell BK127.out 1).trans rfl
 have hfz43_0 := blk_frozen BK127.out 0
 have hfz43_1 := blk_frozen BK127.out 1
 have p129 : 0 ≤ ((ji29) : Int) := of_decide_eq_true (by first | (with_reducible assumption) | assumption)
 have q129 : (ji29) < (l0_1.length : Int) := of_decide_eq_true (by first | (with_reducible assumption) | assumption)
 obtain ⟨ad129, e129, hx129_0, hx129_1⟩ := at_T46 HR0_1.out (ji29) p129 q129
 obtain rfl : ad126 = ad129 := (by injection e129)
 replace hx129_0 := (HB.out.cell (World.block_lt_of_cell? w _ hx129_0)).trans hx129_0
 replace hx129_1 := (HB.out.cell (World.block_lt_of_cell? w _ hx129_1)).trans hx129_1
 replace p129 := eq_true p129
 replace q129 := eq_true q129
 have p130 : 0 ≤ ((ji29) : Int) := of_decide_eq_true (by first | (with_reducible assumption) | assumption)
 have q130 : (ji29) < (l0_1.length : Int) := of_decide_eq_true (by first | (with_reducible assumption) | assumption)
 obtain ⟨ad130, e130, hx130_0, hx130_1⟩ := at_T46 HR0_1.out (ji29) p130 q130
 obtain rfl : ad126 = ad130 := (by injection e130)
 replace hx130_0 := (HB.out.cell (World.block_lt_of_cell? w _ hx130_0)).trans hx130_0
 replace hx130_1 := (HB.out.cell (World.block_lt_of_cell? w _ hx130_1)).trans hx130_1
 replace p130 := eq_true p130
 replace q130 := eq_true q130
 go_wp2
 repeat (go_quiet (fail); try go_wp2)
 go_roundg kj11
 case measure => have := HJ1.out; have := HK2.out; have := HJ11.out; omega
 exact ⟨(wrap64 (x3_2 + 1)), (by first | rfl | (simp; done) | (simp [*]; done)), H', ⟨by have := HJ1.out; have := HK2.out; have := HJ11.out; omega⟩, ⟨by (with_reducible repeat (first | refine blk_drewN ?_ _ | refine blk_drew ?_ | refine blk_alloc ?_ _)); exact BK125.out⟩, ⟨by repeat (first | (with_reducible first | exact HB.out | apply below_alloc | apply pw_below_drewN | apply below_drew1 | refine below_set ?_ GE125.out | refine below_set ?_ GE127.out) | exact HB.out)⟩⟩

end Go.Proofs.Ytngglgkemonibaa.P
