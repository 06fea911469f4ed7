-- made by wip/fork.py (a program of this session) out of the translation; Lean checks it
import Derived.Test.YtngglgkemonibaaK0
import Derived.Test.YtngglgkemonibaaF34
/- flat -/
namespace Go.Proofs.Ytngglgkemonibaa.P
open Go.RowKit Go.Proofs.YtngglgkemonibaaW.PrintWords Go.Proofs.YtngglgkemonibaaW.PrintLast Go.Proofs.YtngglgkemonibaaW.PrintMore
attribute [local go_sem] max2_int min2_int max_two min_two max_three min_three max_four min_four   -- for this text's walks alone
set_option linter.unusedVariables false
set_option linter.unusedSimpArgs false

/-! ### carcanetref03_Has: function 27 -/
def carcanetref03_Has.l0 : Nat → Int → Int → Int → Int → List (S46) → Option (Bool)
  | 0, _, _, _, _, _ => none
  | k + 1, x1, x2, x7, x132000, x132001 => if x7 < (x132001.length : Int) then (if 0 ≤ x7 then (if ((rd_T46 x132001 x7).f0) = x1 then (if ((rd_T46 x132001 x7).f1) = x2 then (some true) else (if ((rd_T46 x132001 x7).f0) = x2 then (if ((rd_T46 x132001 x7).f1) = x1 then (some true) else (carcanetref03_Has.l0 k x1 x2 (wrap64 (x7 + 1)) x132000 x132001)) else (carcanetref03_Has.l0 k x1 x2 (wrap64 (x7 + 1)) x132000 x132001))) else (if ((rd_T46 x132001 x7).f0) = x2 then (if ((rd_T46 x132001 x7).f1) = x1 then (some true) else (carcanetref03_Has.l0 k x1 x2 (wrap64 (x7 + 1)) x132000 x132001)) else (carcanetref03_Has.l0 k x1 x2 (wrap64 (x7 + 1)) x132000 x132001))) else (none)) else (some false)
def carcanetref03_Has.f (k : Nat) (a0_0 : Int) (l0_1 : List (S46)) (a1 : Int) (a2 : Int) : Option (Bool) := (carcanetref03_Right.f k a0_0 l0_1).bind fun t132 => (if t132 = true then (carcanetref03_Has.l0 k a1 a2 0 a0_0 l0_1) else (some false))
set_option maxHeartbeats 8000000 in
set_option maxRecDepth 100000 in
theorem carcanetref03_Has.calls (k : Nat) (a0_0 : Int) (A0_1 : Option Addr) (c0_1 : Nat) (l0_1 : List (S46)) (a1 : Int) (a2 : Int) (r : Bool) (w : World) (hr0_1 : Kd.C k46 w A0_1 l0_1.length l0_1) (hc0_1 : l0_1.length ≤ c0_1) (h : carcanetref03_Has.f k a0_0 l0_1 a1 a2 = some r) :
    Calls Try.prog 27 #[.agg #[.int .i64 a0_0, .slice A0_1 l0_1.length c0_1], .int .i64 a1, .int .i64 a2] w fun e w' => e = .returned (.bool r) ∧ Below w.heap.size w w' := by
 have hu24 := Try.underlying24
 have HR0_1 := Aside0.mk hr0_1
 have HC0_1 := Aside0.mk hc0_1
 clear hr0_1 hc0_1
 have HB := Aside0.mk (Below.refl w.heap.size w)
 have H : ((carcanetref03_Right.f k a0_0 l0_1).bind fun t132 => (if t132 = true then (carcanetref03_Has.l0 k a1 a2 0 a0_0 l0_1) else (some false))) = some r := h
 clear h
 replace H := Option.bind_eq_some_iff.mp H
 obtain ⟨t132, A40, H⟩ := H
 replace H : (if t132 = true then (carcanetref03_Has.l0 k a1 a2 0 a0_0 l0_1) else (some false)) = some r := H
 have A4 := Aside0.mk A40
 clear A40
 by_cases c5 : t132 = true
 rotate_left
 · replace c5 := Bool.eq_false_iff.mpr c5
   subst c5
   have H1 : (some false) = some r := by rw [if_neg (show ¬ (false = true) by decide)] at H; exact H
   clear H
   have H := H1
   clear H1
   obtain rfl := Option.some.inj H
   go_enter Try.func27, Try.ntmps27
   go_wp2_with (first | ((with_reducible refine gate_dst (N := 3) rfl ?_); refine box_event ?hg (N := 3) ?hd (cs := #[.int .i64 a0_0, .slice A0_1 l0_1.length c0_1]) (t := 24) ?hr ?_; (case hd => rfl); (case hg => rfl); (case hr => first | (go_simp; done) | (go_simp; rfl)); intro gb131 hg w25 hbox hb; have n0_ := Aside0.mk (below_step (by repeat (first | (with_reducible first | exact HB.out | apply below_alloc | apply pw_below_drewN | apply below_drew1) | exact HB.out)) hb); have n1_ := Aside0.mk (hbox); have n2_ := Aside0.mk ((by rw [hg]; exact (below_size (by repeat (first | (with_reducible first | exact HB.out | apply below_alloc | apply pw_below_drewN | apply below_drew1) | exact HB.out))) : w.heap.size ≤ gb131)); have n3_ := Aside0.mk ((by rw [hg]; exact (below_size (by repeat (first | (with_reducible first | exact HB.out | apply below_alloc | apply pw_below_drewN | apply below_drew1) | exact HB.out))) : w.heap.size ≤ gb131)); clear HB; have HB := n0_; have BK131 := n1_; have GW131 := n2_; have GE131 := n3_; clear n0_ n1_ n2_ n3_; clear hb hbox hg; have hcz26_0 : w25.cell? ⟨gb131, 0, none⟩ = some (.int .i64 a0_0) := (blk_cell BK131.out 0).trans rfl; have hcz26_1 : w25.cell? ⟨gb131, 1, none⟩ = some (.slice A0_1 l0_1.length c0_1) := (blk_cell BK131.out 1).trans rfl; have hfz26_0 := blk_frozen BK131.out 0; have hfz26_1 := blk_frozen BK131.out 1) | ((with_reducible refine gate_callee (f := 34) rfl ?_); refine goesL_ (some 9) rfl rfl Try.func34 (by kernel_rfl) rfl #[.agg #[.int .i64 a0_0, .slice A0_1 l0_1.length c0_1]] rfl (by (try simp only [List.map_toArray, List.map_cons, List.map_nil]); first | done | rfl | (simp only [List.length_drop, List.length_take]; rfl)) ?_; (with_reducible refine (carcanetref03_Right.calls k a0_0 _ _ l0_1 false _ ?side1 ?side2 A4.out).mono ?_); (case side1 => repeat (first | exact (Kd.C_below HR0_1.out HB.out) | (with_reducible refine Kd.C_alloc ?_ _) | (with_reducible refine Kd.C_drewN ?_ _) | (with_reducible refine Kd.C_drew ?_))); (case side2 => exact HC0_1.out); rintro e w27 ⟨rfl, hb⟩; refine ⟨_, rfl, ?_⟩; have n0_ := Aside0.mk (blk_below (g := gb131) (o := .cells #[.int .i64 a0_0, .slice A0_1 l0_1.length c0_1] 24 (0, 0)) (by (with_reducible repeat (first | refine blk_drewN ?_ _ | refine blk_drew ?_ | refine blk_alloc ?_ _)); exact BK131.out) hb); have n1_ := Aside0.mk (below_step (by repeat (first | (with_reducible first | exact HB.out | apply below_alloc | apply pw_below_drewN | apply below_drew1 | refine below_set ?_ GE131.out) | exact HB.out)) hb); clear BK131; clear HB; have BK131 := n0_; have HB := n1_; clear n0_ n1_; (try clear hb); (try clear hb2); (try clear hk); (try clear hi)))
   go_ret
   exact ⟨by first | rfl | (simp [errW_none, errW_some] <;> rfl) | (simp [*, errW_none, errW_some] <;> rfl), by repeat (first | (with_reducible first | exact HB.out | apply below_alloc | apply pw_below_drewN | apply below_drew1 | refine below_set ?_ GE131.out) | exact HB.out)⟩
 subst c5
 have H1 : (carcanetref03_Has.l0 k a1 a2 0 a0_0 l0_1) = some r := by rw [if_pos rfl] at H; exact H
 clear H
 have H := H1
 clear H1
 have H' := Aside0.mk H
 clear H
 go_enter Try.func27, Try.ntmps27
 go_wp2_with (first | ((with_reducible refine gate_dst (N := 3) rfl ?_); refine box_event ?hg (N := 3) ?hd (cs := #[.int .i64 a0_0, .slice A0_1 l0_1.length c0_1]) (t := 24) ?hr ?_; (case hd => rfl); (case hg => rfl); (case hr => first | (go_simp; done) | (go_simp; rfl)); intro gb131 hg w6 hbox hb; have n0_ := Aside0.mk (below_step (by repeat (first | (with_reducible first | exact HB.out | apply below_alloc | apply pw_below_drewN | apply below_drew1) | exact HB.out)) hb); have n1_ := Aside0.mk (hbox); have n2_ := Aside0.mk ((by rw [hg]; exact (below_size (by repeat (first | (with_reducible first | exact HB.out | apply below_alloc | apply pw_below_drewN | apply below_drew1) | exact HB.out))) : w.heap.size ≤ gb131)); have n3_ := Aside0.mk ((by rw [hg]; exact (below_size (by repeat (first | (with_reducible first | exact HB.out | apply below_alloc | apply pw_below_drewN | apply below_drew1) | exact HB.out))) : w.heap.size ≤ gb131)); clear HB; have HB := n0_; have BK131 := n1_; have GW131 := n2_; have GE131 := n3_; clear n0_ n1_ n2_ n3_; clear hb hbox hg; have hcz7_0 : w6.cell? ⟨gb131, 0, none⟩ = some (.int .i64 a0_0) := (blk_cell BK131.out 0).trans rfl; have hcz7_1 : w6.cell? ⟨gb131, 1, none⟩ = some (.slice A0_1 l0_1.length c0_1) := (blk_cell BK131.out 1).trans rfl; have hfz7_0 := blk_frozen BK131.out 0; have hfz7_1 := blk_frozen BK131.out 1) | ((with_reducible refine gate_callee (f := 34) rfl ?_); refine goesL_ (some 9) rfl rfl Try.func34 (by kernel_rfl) rfl #[.agg #[.int .i64 a0_0, .slice A0_1 l0_1.length c0_1]] rfl (by (try simp only [List.map_toArray, List.map_cons, List.map_nil]); first | done | rfl | (simp only [List.length_drop, List.length_take]; rfl)) ?_; (with_reducible refine (carcanetref03_Right.calls k a0_0 _ _ l0_1 true _ ?side1 ?side2 A4.out).mono ?_); (case side1 => repeat (first | exact (Kd.C_below HR0_1.out HB.out) | (with_reducible refine Kd.C_alloc ?_ _) | (with_reducible refine Kd.C_drewN ?_ _) | (with_reducible refine Kd.C_drew ?_))); (case side2 => exact HC0_1.out); rintro e w8 ⟨rfl, hb⟩; refine ⟨_, rfl, ?_⟩; have n0_ := Aside0.mk (blk_below (g := gb131) (o := .cells #[.int .i64 a0_0, .slice A0_1 l0_1.length c0_1] 24 (0, 0)) (by (with_reducible repeat (first | refine blk_drewN ?_ _ | refine blk_drew ?_ | refine blk_alloc ?_ _)); exact BK131.out) hb); have n1_ := Aside0.mk (below_step (by repeat (first | (with_reducible first | exact HB.out | apply below_alloc | apply pw_below_drewN | apply below_drew1 | refine below_set ?_ GE131.out) | exact HB.out)) hb); clear BK131; clear HB; have BK131 := n0_; have HB := n1_; clear n0_ n1_; (try clear hb); (try clear hb2); (try clear hk); (try clear hi)))
 go_loopg [7] k (fun kq v7 w' => ∃ (x7_1 : Int), v7 = .int .i64 x7_1 ∧ Aside0 (carcanetref03_Has.l0 kq a1 a2 x7_1 a0_0 l0_1 = some r) ∧ Aside0 (kq ≤ k) ∧ Aside0 (w'.heap[gb131]? = some (.cells #[.int .i64 a0_0, (.slice A0_1 l0_1.length c0_1)] 24 (0, 0))) ∧ Aside0 (Below w.heap.size w w'))
 case atStart => exact ⟨(0), (by first | rfl | (simp; done) | (simp [*]; done)), H', ⟨Nat.le_refl _⟩, ⟨by (with_reducible repeat (first | refine blk_drewN ?_ _ | refine blk_drew ?_ | refine blk_alloc ?_ _)); exact BK131.out⟩, ⟨by repeat (first | (with_reducible first | exact HB.out | apply below_alloc | apply pw_below_drewN | apply below_drew1 | refine below_set ?_ GE131.out) | exact HB.out)⟩⟩
 clear H'
 try clear c2
 try clear p2
 try clear c3
 try clear c5
 try clear hcz7_0
 try clear hcz7_1
 try clear hfz7_0
 try clear hfz7_1
 obtain ⟨x7_1, rfl, HA, HK1, BK131, HB⟩ := hrel
 rcases gk with _ | k1
 · exact absurd HA.out (by simp [carcanetref03_Has.l0])
 have H := HA.out
 clear HA
 simp only [carcanetref03_Has.l0] at H
 by_cases c9 : x7_1 < (l0_1.length : Int)
 rotate_left
 · rw [if_neg c9] at H
   have c9b0 : decide (x7_1 < (l0_1.length : Int)) = false := decide_eq_false c9
   clear c9
   obtain rfl := Option.some.inj H
   have hcz24_0 : wr.cell? ⟨gb131, 0, none⟩ = some (.int .i64 a0_0) := (blk_cell BK131.out 0).trans rfl
   have hcz24_1 : wr.cell? ⟨gb131, 1, none⟩ = some (.slice A0_1 l0_1.length c0_1) := (blk_cell BK131.out 1).trans rfl
   have hfz24_0 := blk_frozen BK131.out 0
   have hfz24_1 := blk_frozen BK131.out 1
   go_wp2
   go_ret
   exact ⟨by first | rfl | (simp [errW_none, errW_some] <;> rfl) | (simp [*, errW_none, errW_some] <;> rfl), by repeat (first | (with_reducible first | exact HB.out | apply below_alloc | apply pw_below_drewN | apply below_drew1 | refine below_set ?_ GE131.out) | exact HB.out)⟩
 rw [if_pos c9] at H
 have c9b0 : decide (x7_1 < (l0_1.length : Int)) = true := decide_eq_true c9
 clear c9
 by_cases c10 : 0 ≤ x7_1
 rotate_left
 · rw [if_neg c10] at H
   exact absurd H (by simp)
 rw [if_pos c10] at H
 have c10b0 : decide (0 ≤ x7_1) = true := decide_eq_true c10
 clear c10
 by_cases c11 : ((rd_T46 l0_1 x7_1).f0) = a1
 rotate_left
 · rw [if_neg c11] at H
   have c11b0 : (((rd_T46 l0_1 x7_1).f0) == a1) = false := beq_eq_false_iff_ne.mpr c11
   have c11b1 : (((rd_T46 l0_1 x7_1).f0) != a1) = true := bne_iff_ne.mpr c11
   by_cases c19 : ((rd_T46 l0_1 x7_1).f0) = a2
   rotate_left
   · rw [if_neg c19] at H
     have c19b0 : (((rd_T46 l0_1 x7_1).f0) == a2) = false := beq_eq_false_iff_ne.mpr c19
     have c19b1 : (((rd_T46 l0_1 x7_1).f0) != a2) = true := bne_iff_ne.mpr c19
     have H' := Aside0.mk H
     clear H
     have hcz23_0 : wr.cell? ⟨gb131, 0, none⟩ = some (.int .i64 a0_0) := (blk_cell BK131.out 0).trans rfl
     have hcz23_1 : wr.cell? ⟨gb131, 1, none⟩ = some (.slice A0_1 l0_1.length c0_1) := (blk_cell BK131.out 1).trans rfl
     have hfz23_0 := blk_frozen BK131.out 0
     have hfz23_1 := blk_frozen BK131.out 1
     have p133 : 0 ≤ (x7_1 : Int) := of_decide_eq_true (by first | (with_reducible assumption) | assumption)
     have q133 : x7_1 < (l0_1.length : Int) := of_decide_eq_true (by first | (with_reducible assumption) | assumption)
     obtain ⟨ad133, e133, hx133_0, hx133_1⟩ := at_T46 HR0_1.out x7_1 p133 q133
     cases e133
     replace hx133_0 := (HB.out.cell (World.block_lt_of_cell? w _ hx133_0)).trans hx133_0
     replace hx133_1 := (HB.out.cell (World.block_lt_of_cell? w _ hx133_1)).trans hx133_1
     replace p133 := eq_true p133
     replace q133 := eq_true q133
     have p137 : 0 ≤ (x7_1 : Int) := of_decide_eq_true (by first | (with_reducible assumption) | assumption)
     have q137 : x7_1 < (l0_1.length : Int) := of_decide_eq_true (by first | (with_reducible assumption) | assumption)
     obtain ⟨ad137, e137, hx137_0, hx137_1⟩ := at_T46 HR0_1.out x7_1 p137 q137
     obtain rfl : ad133 = ad137 := (by injection e137)
     replace hx137_0 := (HB.out.cell (World.block_lt_of_cell? w _ hx137_0)).trans hx137_0
     replace hx137_1 := (HB.out.cell (World.block_lt_of_cell? w _ hx137_1)).trans hx137_1
     replace p137 := eq_true p137
     replace q137 := eq_true q137
     go_wp2
     go_roundg k1
     case measure => have := HK1.out; omega
     exact ⟨(wrap64 (x7_1 + 1)), (by first | rfl | (simp; done) | (simp [*]; done)), H', ⟨by have := HK1.out; omega⟩, ⟨by (with_reducible repeat (first | refine blk_drewN ?_ _ | refine blk_drew ?_ | refine blk_alloc ?_ _)); exact BK131.out⟩, ⟨by repeat (first | (with_reducible first | exact HB.out | apply below_alloc | apply pw_below_drewN | apply below_drew1 | refine below_set ?_ GE131.out) | exact HB.out)⟩⟩
   rw [if_pos c19] at H
   have c19b0 : (((rd_T46 l0_1 x7_1).f0) == a2) = true := beq_iff_eq.mpr c19
   have c19b1 : (((rd_T46 l0_1 x7_1).f0) != a2) = false := bne_eq_false_iff_eq.mpr c19
   clear c19
   by_cases c20 : ((rd_T46 l0_1 x7_1).f1) = a1
   · rw [if_pos c20] at H
     have c20b0 : (((rd_T46 l0_1 x7_1).f1) == a1) = true := beq_iff_eq.mpr c20
     have c20b1 : (((rd_T46 l0_1 x7_1).f1) != a1) = false := bne_eq_false_iff_eq.mpr c20
     clear c20
     obtain rfl := Option.some.inj H
     have hcz21_0 : wr.cell? ⟨gb131, 0, none⟩ = some (.int .i64 a0_0) := (blk_cell BK131.out 0).trans rfl
     have hcz21_1 : wr.cell? ⟨gb131, 1, none⟩ = some (.slice A0_1 l0_1.length c0_1) := (blk_cell BK131.out 1).trans rfl
     have hfz21_0 := blk_frozen BK131.out 0
     have hfz21_1 := blk_frozen BK131.out 1
     have p133 : 0 ≤ (x7_1 : Int) := of_decide_eq_true (by first | (with_reducible assumption) | assumption)
     have q133 : x7_1 < (l0_1.length : Int) := of_decide_eq_true (by first | (with_reducible assumption) | assumption)
     obtain ⟨ad133, e133, hx133_0, hx133_1⟩ := at_T46 HR0_1.out x7_1 p133 q133
     cases e133
     replace hx133_0 := (HB.out.cell (World.block_lt_of_cell? w _ hx133_0)).trans hx133_0
     replace hx133_1 := (HB.out.cell (World.block_lt_of_cell? w _ hx133_1)).trans hx133_1
     replace p133 := eq_true p133
     replace q133 := eq_true q133
     have p137 : 0 ≤ (x7_1 : Int) := of_decide_eq_true (by first | (with_reducible assumption) | assumption)
     have q137 : x7_1 < (l0_1.length : Int) := of_decide_eq_true (by first | (with_reducible assumption) | assumption)
     obtain ⟨ad137, e137, hx137_0, hx137_1⟩ := at_T46 HR0_1.out x7_1 p137 q137
     obtain rfl : ad133 = ad137 := (by injection e137)
     replace hx137_0 := (HB.out.cell (World.block_lt_of_cell? w _ hx137_0)).trans hx137_0
     replace hx137_1 := (HB.out.cell (World.block_lt_of_cell? w _ hx137_1)).trans hx137_1
     replace p137 := eq_true p137
     replace q137 := eq_true q137
     have p138 : 0 ≤ (x7_1 : Int) := of_decide_eq_true (by first | (with_reducible assumption) | assumption)
     have q138 : x7_1 < (l0_1.length : Int) := of_decide_eq_true (by first | (with_reducible assumption) | assumption)
     obtain ⟨ad138, e138, hx138_0, hx138_1⟩ := at_T46 HR0_1.out x7_1 p138 q138
     obtain rfl : ad133 = ad138 := (by injection e138)
     replace hx138_0 := (HB.out.cell (World.block_lt_of_cell? w _ hx138_0)).trans hx138_0
     replace hx138_1 := (HB.out.cell (World.block_lt_of_cell? w _ hx138_1)).trans hx138_1
     replace p138 := eq_true p138
     replace q138 := eq_true q138
     go_wp2
     go_ret
     exact ⟨by first | rfl | (simp [errW_none, errW_some] <;> rfl) | (simp [*, errW_none, errW_some] <;> rfl), by repeat (first | (with_reducible first | exact HB.out | apply below_alloc | apply pw_below_drewN | apply below_drew1 | refine below_set ?_ GE131.out) | exact HB.out)⟩
   rw [if_neg c20] at H
   have c20b0 : (((rd_T46 l0_1 x7_1).f1) == a1) = false := beq_eq_false_iff_ne.mpr c20
   have c20b1 : (((rd_T46 l0_1 x7_1).f1) != a1) = true := bne_iff_ne.mpr c20
   have H' := Aside0.mk H
   clear H
   have hcz22_0 : wr.cell? ⟨gb131, 0, none⟩ = some (.int .i64 a0_0) := (blk_cell BK131.out 0).trans rfl
   have hcz22_1 : wr.cell? ⟨gb131, 1, none⟩ = some (.slice A0_1 l0_1.length c0_1) := (blk_cell BK131.out 1).trans rfl
   have hfz22_0 := blk_frozen BK131.out 0
   have hfz22_1 := blk_frozen BK131.out 1
   have p133 : 0 ≤ (x7_1 : Int) := of_decide_eq_true (by first | (with_reducible assumption) | assumption)
   have q133 : x7_1 < (l0_1.length : Int) := of_decide_eq_true (by first | (with_reducible assumption) | assumption)
   obtain ⟨ad133, e133, hx133_0, hx133_1⟩ := at_T46 HR0_1.out x7_1 p133 q133
   cases e133
   replace hx133_0 := (HB.out.cell (World.block_lt_of_cell? w _ hx133_0)).trans hx133_0
   replace hx133_1 := (HB.out.cell (World.block_lt_of_cell? w _ hx133_1)).trans hx133_1
   replace p133 := eq_true p133
   replace q133 := eq_true q133
   have p137 : 0 ≤ (x7_1 : Int) := of_decide_eq_true (by first | (with_reducible assumption) | assumption)
   have q137 : x7_1 < (l0_1.length : Int) := of_decide_eq_true (by first | (with_reducible assumption) | assumption)
   obtain ⟨ad137, e137, hx137_0, hx137_1⟩ := at_T46 HR0_1.out x7_1 p137 q137
   obtain rfl : ad133 = ad137 := (by injection e137)
   replace hx137_0 := (HB.out.cell (World.block_lt_of_cell? w _ hx137_0)).trans hx137_0
   replace hx137_1 := (HB.out.cell (World.block_lt_of_cell? w _ hx137_1)).trans hx137_1
   replace p137 := eq_true p137
   replace q137 := eq_true q137
   have p138 : 0 ≤ (x7_1 : Int) := of_decide_eq_true (by first | (with_reducible assumption) | assumption)
   have q138 : x7_1 < (l0_1.length : Int) := of_decide_eq_true (by first | (with_reducible assumption) | assumption)
   obtain ⟨ad138, e138, hx138_0, hx138_1⟩ := at_T46 HR0_1.out x7_1 p138 q138
   obtain rfl : ad133 = ad138 := (by injection e138)
   replace hx138_0 := (HB.out.cell (World.block_lt_of_cell? w _ hx138_0)).trans hx138_0
   replace hx138_1 := (HB.out.cell (World.block_lt_of_cell? w _ hx138_1)).trans hx138_1
   replace p138 := eq_true p138
   replace q138 := eq_true q138
   go_wp2
   go_roundg k1
   case measure => have := HK1.out; omega
   exact ⟨(wrap64 (x7_1 + 1)), (by first | rfl | (simp; done) | (simp [*]; done)), H', ⟨by have := HK1.out; omega⟩, ⟨by (with_reducible repeat (first | refine blk_drewN ?_ _ | refine blk_drew ?_ | refine blk_alloc ?_ _)); exact BK131.out⟩, ⟨by repeat (first | (with_reducible first | exact HB.out | apply below_alloc | apply pw_below_drewN | apply below_drew1 | refine below_set ?_ GE131.out) | exact HB.out)⟩⟩
 rw [if_pos c11] at H
 have c11b0 : (((rd_T46 l0_1 x7_1).f0) == a1) = true := beq_iff_eq.mpr c11
 have c11b1 : (((rd_T46 l0_1 x7_1).f0) != a1) = false := bne_eq_false_iff_eq.mpr c11
 clear c11
 by_cases c12 : ((rd_T46 l0_1 x7_1).f1) = a2
 · rw [if_pos c12] at H
   have c12b0 : (((rd_T46 l0_1 x7_1).f1) == a2) = true := beq_iff_eq.mpr c12
   have c12b1 : (((rd_T46 l0_1 x7_1).f1) != a2) = false := bne_eq_false_iff_eq.mpr c12
   clear c12
   obtain rfl := Option.some.inj H
   have hcz13_0 : wr.cell? ⟨gb131, 0, none⟩ = some (.int .i64 a0_0) := (blk_cell BK131.out 0).trans rfl
   have hcz13_1 : wr.cell? ⟨gb131, 1, none⟩ = some (.slice A0_1 l0_1.length c0_1) := (blk_cell BK131.out 1).trans rfl
   have hfz13_0 := blk_frozen BK131.out 0
   have hfz13_1 := blk_frozen BK131.out 1
   have p133 : 0 ≤ (x7_1 : Int) := of_decide_eq_true (by first | (with_reducible assumption) | assumption)
   have q133 : x7_1 < (l0_1.length : Int) := of_decide_eq_true (by first | (with_reducible assumption) | assumption)
   obtain ⟨ad133, e133, hx133_0, hx133_1⟩ := at_T46 HR0_1.out x7_1 p133 q133
   cases e133
   replace hx133_0 := (HB.out.cell (World.block_lt_of_cell? w _ hx133_0)).trans hx133_0
   replace hx133_1 := (HB.out.cell (World.block_lt_of_cell? w _ hx133_1)).trans hx133_1
   replace p133 := eq_true p133
   replace q133 := eq_true q133
   have p134 : 0 ≤ (x7_1 : Int) := of_decide_eq_true (by first | (with_reducible assumption) | assumption)
   have q134 : x7_1 < (l0_1.length : Int) := of_decide_eq_true (by first | (with_reducible assumption) | assumption)
   obtain ⟨ad134, e134, hx134_0, hx134_1⟩ := at_T46 HR0_1.out x7_1 p134 q134
   obtain rfl : ad133 = ad134 := (by injection e134)
   replace hx134_0 := (HB.out.cell (World.block_lt_of_cell? w _ hx134_0)).trans hx134_0
   replace hx134_1 := (HB.out.cell (World.block_lt_of_cell? w _ hx134_1)).trans hx134_1
   replace p134 := eq_true p134
   replace q134 := eq_true q134
   go_wp2
   go_ret
   exact ⟨by first | rfl | (simp [errW_none, errW_some] <;> rfl) | (simp [*, errW_none, errW_some] <;> rfl), by repeat (first | (with_reducible first | exact HB.out | apply below_alloc | apply pw_below_drewN | apply below_drew1 | refine below_set ?_ GE131.out) | exact HB.out)⟩
 rw [if_neg c12] at H
 have c12b0 : (((rd_T46 l0_1 x7_1).f1) == a2) = false := beq_eq_false_iff_ne.mpr c12
 have c12b1 : (((rd_T46 l0_1 x7_1).f1) != a2) = true := bne_iff_ne.mpr c12
 by_cases c14 : ((rd_T46 l0_1 x7_1).f0) = a2
 rotate_left
 · rw [if_neg c14] at H
   have c14b0 : (((rd_T46 l0_1 x7_1).f0) == a2) = false := beq_eq_false_iff_ne.mpr c14
   have c14b1 : (((rd_T46 l0_1 x7_1).f0) != a2) = true := bne_iff_ne.mpr c14
   have H' := Aside0.mk H
   clear H
   have hcz18_0 : wr.cell? ⟨gb131, 0, none⟩ = some (.int .i64 a0_0) := (blk_cell BK131.out 0).trans rfl
   have hcz18_1 : wr.cell? ⟨gb131, 1, none⟩ = some (.slice A0_1 l0_1.length c0_1) := (blk_cell BK131.out 1).trans rfl
   have hfz18_0 := blk_frozen BK131.out 0
   have hfz18_1 := blk_frozen BK131.out 1
   have p133 : 0 ≤ (x7_1 : Int) := of_decide_eq_true (by first | (with_reducible assumption) | assumption)
   have q133 : x7_1 < (l0_1.length : Int) := of_decide_eq_true (by first | (with_reducible assumption) | assumption)
   obtain ⟨ad133, e133, hx133_0, hx133_1⟩ := at_T46 HR0_1.out x7_1 p133 q133
   cases e133
   replace hx133_0 := (HB.out.cell (World.block_lt_of_cell? w _ hx133_0)).trans hx133_0
   replace hx133_1 := (HB.out.cell (World.block_lt_of_cell? w _ hx133_1)).trans hx133_1
   replace p133 := eq_true p133
   replace q133 := eq_true q133
   have p134 : 0 ≤ (x7_1 : Int) := of_decide_eq_true (by first | (with_reducible assumption) | assumption)
   have q134 : x7_1 < (l0_1.length : Int) := of_decide_eq_true (by first | (with_reducible assumption) | assumption)
   obtain ⟨ad134, e134, hx134_0, hx134_1⟩ := at_T46 HR0_1.out x7_1 p134 q134
   obtain rfl : ad133 = ad134 := (by injection e134)
   replace hx134_0 := (HB.out.cell (World.block_lt_of_cell? w _ hx134_0)).trans hx134_0
   replace hx134_1 := (HB.out.cell (World.block_lt_of_cell? w _ hx134_1)).trans hx134_1
   replace p134 := eq_true p134
   replace q134 := eq_true q134
   have p135 : 0 ≤ (x7_1 : Int) := of_decide_eq_true (by first | (with_reducible assumption) | assumption)
   have q135 : x7_1 < (l0_1.length : Int) := of_decide_eq_true (by first | (with_reducible assumption) | assumption)
   obtain ⟨ad135, e135, hx135_0, hx135_1⟩ := at_T46 HR0_1.out x7_1 p135 q135
   obtain rfl : ad133 = ad135 := (by injection e135)
   replace hx135_0 := (HB.out.cell (World.block_lt_of_cell? w _ hx135_0)).trans hx135_0
   replace hx135_1 := (HB.out.cell (World.block_lt_of_cell? w _ hx135_1)).trans hx135_1
   replace p135 := eq_true p135
   replace q135 := eq_true q135
   go_wp2
   go_roundg k1
   case measure => have := HK1.out; omega
   exact ⟨(wrap64 (x7_1 + 1)), (by first | rfl | (simp; done) | (simp [*]; done)), H', ⟨by have := HK1.out; omega⟩, ⟨by (with_reducible repeat (first | refine blk_drewN ?_ _ | refine blk_drew ?_ | refine blk_alloc ?_ _)); exact BK131.out⟩, ⟨by repeat (first | (with_reducible first | exact HB.out | apply below_alloc | apply pw_below_drewN | apply below_drew1 | refine below_set ?_ GE131.out) | exact HB.out)⟩⟩
 rw [if_pos c14] at H
 have c14b0 : (((rd_T46 l0_1 x7_1).f0) == a2) = true := beq_iff_eq.mpr c14
 have c14b1 : (((rd_T46 l0_1 x7_1).f0) != a2) = false := bne_eq_false_iff_eq.mpr c14
 clear c14
 by_cases c15 : ((rd_T46 l0_1 x7_1).f1) = a1
 · rw [if_pos c15] at H
   have c15b0 : (((rd_T46 l0_1 x7_1).f1) == a1) = true := beq_iff_eq.mpr c15
   have c15b1 : (((rd_T46 l0_1 x7_1).f1) != a1) = false := bne_eq_false_iff_eq.mpr c15
   clear c15
   obtain rfl := Option.some.inj H
   have hcz16_0 : wr.cell? ⟨gb131, 0, none⟩ = some (.int .i64 a0_0) := (blk_cell BK131.out 0).trans rfl
   have hcz16_1 : wr.cell? ⟨gb131, 1, none⟩ = some (.slice A0_1 l0_1.length c0_1) := (blk_cell BK131.out 1).trans rfl
   have hfz16_0 := blk_frozen BK131.out 0
   have hfz16_1 := blk_frozen BK131.out 1
   have p133 : 0 ≤ (x7_1 : Int) := of_decide_eq_true (by first | (with_reducible assumption) | assumption)
   have q133 : x7_1 < (l0_1.length : Int) := of_decide_eq_true (by first | (with_reducible assumption) | assumption)
   obtain ⟨ad133, e133, hx133_0, hx133_1⟩ := at_T46 HR0_1.out x7_1 p133 q133
   cases e133
   replace hx133_0 := (HB.out.cell (World.block_lt_of_cell? w _ hx133_0)).trans hx133_0
   replace hx133_1 := (HB.out.cell (World.block_lt_of_cell? w _ hx133_1)).trans hx133_1
   replace p133 := eq_true p133
   replace q133 := eq_true q133
   have p134 : 0 ≤ (x7_1 : Int) := of_decide_eq_true (by first | (with_reducible assumption) | assumption)
   have q134 : x7_1 < (l0_1.length : Int) := of_decide_eq_true (by first | (with_reducible assumption) | assumption)
   obtain ⟨ad134, e134, hx134_0, hx134_1⟩ := at_T46 HR0_1.out x7_1 p134 q134
   obtain rfl : ad133 = ad134 := (by injection e134)
   replace hx134_0 := (HB.out.cell (World.block_lt_of_cell? w _ hx134_0)).trans hx134_0
   replace hx134_1 := (HB.out.cell (World.block_lt_of_cell? w _ hx134_1)).trans hx134_1
   replace p134 := eq_true p134
   replace q134 := eq_true q134
   have p135 : 0 ≤ (x7_1 : Int) := of_decide_eq_true (by first | (with_reducible assumption) | assumption)
   have q135 : x7_1 < (l0_1.length : Int) := of_decide_eq_true (by first | (with_reducible assumption) | assumption)
   obtain ⟨ad135, e135, hx135_0, hx135_1⟩ := at_T46 HR0_1.out x7_1 p135 q135
   obtain rfl : ad133 = ad135 := (by injection e135)
   replace hx135_0 := (HB.out.cell (World.block_lt_of_cell? w _ hx135_0)).trans hx135_0
   replace hx135_1 := (HB.out.cell (World.block_lt_of_cell? w _ hx135_1)).trans hx135_1
   replace p135 := eq_true p135
   replace q135 := eq_true q135
   have p136 : 0 ≤ (x7_1 : Int) := of_decide_eq_true (by first | (with_reducible assumption) | assumption)
   have q136 : x7_1 < (l0_1.length : Int) := of_decide_eq_true (by first | (with_reducible assumption) | assumption)
   obtain ⟨ad136, e136, hx136_0, hx136_1⟩ := at_T46 HR0_1.out x7_1 p136 q136
   obtain rfl : ad133 = ad136 := (by injection e136)
   replace hx136_0 := (HB.out.cell (World.block_lt_of_cell? w _ hx136_0)).trans hx136_0
   replace hx136_1 := (HB.out.cell (World.block_lt_of_cell? w _ hx136_1)).trans hx136_1
   replace p136 := eq_true p136
   replace q136 := eq_true q136
   go_wp2
   go_ret
   exact ⟨by first | rfl | (simp [errW_none, errW_some] <;> rfl) | (simp [*, errW_none, errW_some] <;> rfl), by repeat (first | (with_reducible first | exact HB.out | apply below_alloc | apply pw_below_drewN | apply below_drew1 | refine below_set ?_ GE131.out) | exact HB.out)⟩
 rw [if_neg c15] at H
 have c15b0 : (((rd_T46 l0_1 x7_1).f1) == a1) = false := beq_eq_false_iff_ne.mpr c15
 have c15b1 : (((rd_T46 l0_1 x7_1).f1) != a1) = true := bne_iff_ne.mpr c15
 have H' := Aside0.mk H
 clear H
 have hcz17_0 : wr.cell? ⟨gb131, 0, none⟩ = some (.int .i64 a0_0) := (blk_cell BK131.out 0).trans rfl
 have hcz17_1 : wr.cell? ⟨gb131, 1, none⟩ = some (.slice A0_1 l0_1.length c0_1) := (blk_cell BK131.out 1).trans rfl
 have hfz17_0 := blk_frozen BK131.out 0
 have hfz17_1 := blk_frozen BK131.out 1
 have p133 : 0 ≤ (x7_1 : Int) := of_decide_eq_true (by first | (with_reducible assumption) | assumption)
 have q133 : x7_1 < (l0_1.length : Int) := of_decide_eq_true (by first | (with_reducible assumption) | assumption)
 obtain ⟨ad133, e133, hx133_0, hx133_1⟩ := at_T46 HR0_1.out x7_1 p133 q133
 cases e133
 replace hx133_0 := (HB.out.cell (World.block_lt_of_cell? w _ hx133_0)).trans hx133_0
 replace hx133_1 := (HB.out.cell (World.block_lt_of_cell? w _ hx133_1)).trans hx133_1
 replace p133 := eq_true p133
 replace q133 := eq_true q133
 have p134 : 0 ≤ (x7_1 : Int) := of_decide_eq_true (by first | (with_reducible assumption) | assumption)
 have q134 : x7_1 < (l0_1.length : Int) := of_decide_eq_true (by first | (with_reducible assumption) | assumption)
 obtain ⟨ad134, e134, hx134_0, hx134_1⟩ := at_T46 HR0_1.out x7_1 p134 q134
 obtain rfl : ad133 = ad134 := (by injection e134)
 replace hx134_0 := (HB.out.cell (World.block_lt_of_cell? w _ hx134_0)).trans hx134_0
 replace hx134_1 := (HB.out.cell (World.block_lt_of_cell? w _ hx134_1)).trans hx134_1
 replace p134 := eq_true p134
 replace q134 := eq_true q134
 have p135 : 0 ≤ (x7_1 : Int) := of_decide_eq_true (by first | (with_reducible assumption) | assumption)
 have q135 : x7_1 < (l0_1.length : Int) := of_decide_eq_true (by first | (with_reducible assumption) | assumption)
 obtain ⟨ad135, e135, hx135_0, hx135_1⟩ := at_T46 HR0_1.out x7_1 p135 q135
 obtain rfl : ad133 = ad135 := (by injection e135)
 replace hx135_0 := (HB.out.cell (World.block_lt_of_cell? w _ hx135_0)).trans hx135_0
 replace hx135_1 := (HB.out.cell (World.block_lt_of_cell? w _ hx135_1)).trans hx135_1
 replace p135 := eq_true p135
 replace q135 := eq_true q135
 have p136 : 0 ≤ (x7_1 : Int) := of_decide_eq_true (by first | (with_reducible assumption) | assumption)
 have q136 : x7_1 < (l0_1.length : Int) := of_decide_eq_true (by first | (with_reducible assumption) | assumption)
 obtain ⟨ad136, e136, hx136_0, hx136_1⟩ := at_T46 HR0_1.out x7_1 p136 q136
 obtain rfl : ad133 = ad136 := (by injection e136)
 replace hx136_0 := (HB.out.cell (World.block_lt_of_cell? w _ hx136_0)).trans hx136_0
 replace hx136_1 := (HB.out.cell (World.block_lt_of_cell? w _ hx136_1)).trans hx136_1
 replace p136 := eq_true p136
 replace q136 := eq_true q136
 go_wp2
 go_roundg k1
 case measure => have := HK1.out; omega
 exact ⟨(wrap64 (x7_1 + 1)), (by first | rfl | (simp; done) | (simp [*]; done)), H', ⟨by have := HK1.out; omega⟩, ⟨by (with_reducible repeat (first | refine blk_drewN ?_ _ | refine blk_drew ?_ | refine blk_alloc ?_ _)); exact BK131.out⟩, ⟨by repeat (first | (with_reducible first | exact HB.out | apply below_alloc | apply pw_below_drewN | apply below_drew1 | refine below_set ?_ GE131.out) | exact HB.out)⟩⟩

end Go.Proofs.Ytngglgkemonibaa.P
