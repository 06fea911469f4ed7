-- made by wip/fork.py (a program of this session) out of the translation; Lean checks it
import Derived.Test.YtngglgkemonibaaK0
import Derived.Test.YtngglgkemonibaaSq
import Derived.Test.YtngglgkemonibaaF32
import Derived.Test.YtngglgkemonibaaApp3
/- flat -/
namespace Go.Proofs.Ytngglgkemonibaa.P
open Go.RowKit Go.Proofs.YtngglgkemonibaaW.PrintWords Go.Proofs.YtngglgkemonibaaW.PrintLast Go.Proofs.YtngglgkemonibaaW.PrintMore
attribute [local go_sem] max2_int min2_int max_two min_two max_three min_three max_four min_four   -- for this text's walks alone
set_option linter.unusedVariables false
set_option linter.unusedSimpArgs false

/-! ### walk_Route: function 20 -/
mutual
def walk_Route.j0 : Nat → Int → Int → List Int → Bool → Int → List (S46) → Option (List Int)
  | 0, _, _, _, _, _, _ => none
  | k + 1, x1, x2, x3, x39, x278000, x278001 => if x39 = true then (some ([] : List Int)) else (if 0 ≤ x278000 then (if (x278000 : Int).toNat ≤ 11728124029610 then (walk_Route.l0 k x1 x2 x3 (List.replicate (x278000 : Int).toNat []) x278001 (x278001.length : Int) 0 x278000 x278001) else (none)) else (none))
def walk_Route.l0 : Nat → Int → Int → List Int → List (List Int) → List (S46) → Int → Int → Int → List (S46) → Option (List Int)
  | 0, _, _, _, _, _, _, _, _, _ => none
  | k + 1, x1, x2, x3, x9, x44, x45, x46, x278000, x278001 => if x46 < x45 then (if 0 ≤ x46 then (if x46 < (x44.length : Int) then (if 0 ≤ ((rd_T46 x44 x46).f0) then (if ((rd_T46 x44 x46).f0) < (x9.length : Int) then (if (rd_L5 x9 ((rd_T46 x44 x46).f0)).length < 17592186044416 then ((some (x9.set (((rd_T46 x44 x46).f0) : Int).toNat ((rd_L5 x9 ((rd_T46 x44 x46).f0)) ++ [(rd_T46 x44 x46).f1]) : List (List Int))).bind fun y288 => (if 0 ≤ ((rd_T46 x44 x46).f1) then (if ((rd_T46 x44 x46).f1) < (x9.length : Int) then (if (rd_L5 y288 ((rd_T46 x44 x46).f1)).length < 17592186044416 then (walk_Route.l0 k x1 x2 x3 (y288.set (((rd_T46 x44 x46).f1) : Int).toNat ((rd_L5 y288 ((rd_T46 x44 x46).f1)) ++ [(rd_T46 x44 x46).f0])) x44 x45 (wrap64 (x46 + 1)) x278000 x278001) else (none)) else (none)) else (none))) else (none)) else (none)) else (none)) else (none)) else (none)) else (if 0 ≤ x278000 then (if (x278000 : Int).toNat ≤ 35184372088832 then (walk_Route.l1 k x1 x2 x9 (List.replicate (x278000 : Int).toNat 0) x3 (x3.length : Int) 0 x278000 x278001) else (none)) else (none))
def walk_Route.l1 : Nat → Int → Int → List (List Int) → List Int → List Int → Int → Int → Int → List (S46) → Option (List Int)
  | 0, _, _, _, _, _, _, _, _, _ => none
  | k + 1, x1, x2, x9, x12, x80, x81, x82, x278000, x278001 => if x82 < x81 then (if 0 ≤ x82 then (if x82 < (x80.length : Int) then (if (rd x80 x82) ≥ 0 then (if (rd x80 x82) < x278000 then (if 0 ≤ (rd x80 x82) then (if (rd x80 x82) < (x12.length : Int) then (walk_Route.l1 k x1 x2 x9 (x12.set ((rd x80 x82) : Int).toNat (-1)) x80 x81 (wrap64 (x82 + 1)) x278000 x278001) else (none)) else (none)) else (walk_Route.l1 k x1 x2 x9 x12 x80 x81 (wrap64 (x82 + 1)) x278000 x278001)) else (walk_Route.l1 k x1 x2 x9 x12 x80 x81 (wrap64 (x82 + 1)) x278000 x278001)) else (none)) else (none)) else (if 0 ≤ x1 then (if x1 < (x12.length : Int) then (if (rd x12 x1) < 0 then (walk_Route.j3 k x1 x2 x9 x12 true) else (if 0 ≤ x2 then (if x2 < (x12.length : Int) then (walk_Route.j3 k x1 x2 x9 x12 (decide ((rd x12 x2) < 0))) else (none)) else (none))) else (none)) else (none))
def walk_Route.j3 : Nat → Int → Int → List (List Int) → List Int → Bool → Option (List Int)
  | 0, _, _, _, _, _ => none
  | k + 1, x1, x2, x9, x12, x109 => if x109 = true then (some ([] : List Int)) else (if 0 ≤ x2 then (if x2 < (x12.length : Int) then (walk_Route.l2 k x1 x2 x9 (x12.set (x2 : Int).toNat 1) (([x2] : List Int))) else (none)) else (none))
def walk_Route.l2 : Nat → Int → Int → List (List Int) → List Int → List Int → Option (List Int)
  | 0, _, _, _, _, _ => none
  | k + 1, x1, x2, x9, x12, x15 => if (x15.length : Int) > 0 then (if 0 ≤ x1 then (if x1 < (x12.length : Int) then (walk_Route.j5 k x1 x2 x9 x12 x15 ((rd x12 x1) == 0)) else (none)) else (none)) else (walk_Route.j5 k x1 x2 x9 x12 x15 false)
def walk_Route.j5 : Nat → Int → Int → List (List Int) → List Int → List Int → Bool → Option (List Int)
  | 0, _, _, _, _, _, _ => none
  | k + 1, x1, x2, x9, x12, x15, x124 => if x124 = true then (if 0 < (x15.length : Int) then (if 0 ≤ (rd x15 0) then (if (rd x15 0) < (x9.length : Int) then (walk_Route.l3 k x1 x2 x9 x12 x15 (rd_L5 x9 (rd x15 0)) ((rd_L5 x9 (rd x15 0)).length : Int) 0) else (none)) else (none)) else (none)) else (if 0 ≤ x1 then (if x1 < (x12.length : Int) then (if (rd x12 x1) = 0 then (some ([] : List Int)) else (walk_Route.l4 k x2 x9 x12 (([x1] : List Int)) x1)) else (none)) else (none))
def walk_Route.l3 : Nat → Int → Int → List (List Int) → List Int → List Int → List Int → Int → Int → Option (List Int)
  | 0, _, _, _, _, _, _, _, _ => none
  | k + 1, x1, x2, x9, x12, x15, x132, x133, x134 => if x134 < x133 then (if 0 ≤ x134 then (if x134 < (x132.length : Int) then (if 0 ≤ (rd x132 x134) then (if (rd x132 x134) < (x12.length : Int) then (if (rd x12 (rd x132 x134)) = 0 then (if 0 < (x15.length : Int) then (if 0 ≤ (rd x15 0) then (if (rd x15 0) < (x12.length : Int) then (if x15.length < 17592186044416 then (walk_Route.l3 k x1 x2 x9 (x12.set ((rd x132 x134) : Int).toNat (wrap64 ((rd x12 (rd x15 0)) + 1))) (x15 ++ [rd x132 x134]) x132 x133 (wrap64 (x134 + 1))) else (none)) else (none)) else (none)) else (none)) else (walk_Route.l3 k x1 x2 x9 x12 x15 x132 x133 (wrap64 (x134 + 1)))) else (none)) else (none)) else (none)) else (none)) else (if 1 ≤ (x15.length : Int) then (walk_Route.l2 k x1 x2 x9 x12 (x15.drop (1 : Int).toNat)) else (none))
def walk_Route.l4 : Nat → Int → List (List Int) → List Int → List Int → Int → Option (List Int)
  | 0, _, _, _, _, _ => none
  | k + 1, x2, x9, x12, x18, x19 => if x19 = x2 then (some x18) else (if 0 ≤ x19 then (if x19 < (x9.length : Int) then (walk_Route.l5 k x2 x9 x12 x18 x19 (-1) (rd_L5 x9 x19) ((rd_L5 x9 x19).length : Int) 0) else (none)) else (none))
def walk_Route.l5 : Nat → Int → List (List Int) → List Int → List Int → Int → Int → List Int → Int → Int → Option (List Int)
  | 0, _, _, _, _, _, _, _, _, _ => none
  | k + 1, x2, x9, x12, x18, x19, x20, x181, x182, x183 => if x183 < x182 then (if 0 ≤ x183 then (if x183 < (x181.length : Int) then (if 0 ≤ (rd x181 x183) then (if (rd x181 x183) < (x12.length : Int) then (if 0 ≤ x19 then (if x19 < (x12.length : Int) then (if (rd x12 (rd x181 x183)) = (wrap64 ((rd x12 x19) - 1)) then (if (rd x12 (rd x181 x183)) > 0 then (if x20 < 0 then (walk_Route.l5 k x2 x9 x12 x18 x19 (rd x181 x183) x181 x182 (wrap64 (x183 + 1))) else (if (rd x181 x183) < x20 then (walk_Route.l5 k x2 x9 x12 x18 x19 (rd x181 x183) x181 x182 (wrap64 (x183 + 1))) else (walk_Route.l5 k x2 x9 x12 x18 x19 x20 x181 x182 (wrap64 (x183 + 1))))) else (walk_Route.l5 k x2 x9 x12 x18 x19 x20 x181 x182 (wrap64 (x183 + 1)))) else (walk_Route.l5 k x2 x9 x12 x18 x19 x20 x181 x182 (wrap64 (x183 + 1)))) else (none)) else (none)) else (none)) else (none)) else (none)) else (none)) else (if x18.length < 17592186044416 then (walk_Route.l4 k x2 x9 x12 (x18 ++ [x20]) x20) else (none))
end
def walk_Route.f (k : Nat) (a0_0 : Int) (l0_1 : List (S46)) (a1 : Int) (a2 : Int) (l3 : List Int) : Option (List Int) := (graph_Right.f k a0_0 l0_1).bind fun t278 => (if t278 = true then (if (mn a1 a2) < 0 then (walk_Route.j0 k a1 a2 l3 true a0_0 l0_1) else (walk_Route.j0 k a1 a2 l3 (decide ((mx a1 a2) ≥ a0_0)) a0_0 l0_1)) else (walk_Route.j0 k a1 a2 l3 true a0_0 l0_1))
def walk_Route.T7 : Bool × List (List Nat × List Nat) := (true, [([], []), ([], []), ([1], [1]), ([], []), ([], []), ([4], [4]), ([3, 5], [3, 5]), ([6], [6]), ([], []), ([8], [8]), ([9], [9]), ([7, 10], [7, 10]), ([0, 2, 0, 1, 2, 3, 4, 5, 6, 7, 8, 9, 10, 11], [0, 2]), ([12, 11, 11, 0, 1, 2, 3, 4, 5, 6, 7, 8, 9, 10, 11], [11, 12])])
def walk_Route.B7 : List Nat := [0, 0, 2, 0, 0, 16, 56, 120, 0, 256, 768, 2040, 4095, 8191]
theorem walk_Route.tab7 : rtab .any (opsOf Try.f20 7) = walk_Route.T7 := by kernel_rfl
theorem walk_Route.bits7 : waitsOk walk_Route.T7.2 walk_Route.B7 = true := by kernel_rfl
def walk_Route.T8 : Bool × List (List Nat × List Nat) := (true, [([], []), ([], []), ([1], [1]), ([], []), ([], []), ([4], [4]), ([3, 5], [3, 5]), ([6], [6]), ([], []), ([8], [8]), ([9], [9]), ([7, 10], [7, 10]), ([0, 2, 0, 1, 2, 3, 4, 5, 6, 7, 8, 9, 10, 11], [0, 2]), ([12, 11, 11, 0, 1, 2, 3, 4, 5, 6, 7, 8, 9, 10, 11], [11, 12])])
def walk_Route.B8 : List Nat := [0, 0, 2, 0, 0, 16, 56, 120, 0, 256, 768, 2040, 4095, 8191]
theorem walk_Route.tab8 : rtab .any (opsOf Try.f20 8) = walk_Route.T8 := by kernel_rfl
theorem walk_Route.bits8 : waitsOk walk_Route.T8.2 walk_Route.B8 = true := by kernel_rfl
def walk_Route.T40 : Bool × List (List Nat × List Nat) := (true, [([], []), ([], []), ([0, 1], [0, 1]), ([2], [2]), ([], []), ([], []), ([4, 5], [4, 5]), ([6], [6]), ([7], [7]), ([3, 8], [3, 8]), ([9], [9]), ([10], [10]), ([10], [10]), ([11, 12, 10], [10, 11, 12]), ([13, 10], [10, 13]), ([14, 10], [10, 14]), ([10, 15], [10, 15]), ([16, 10], [16]), ([17], [17]), ([18, 17], [17, 18]), ([19, 17, 17], [17, 19]), ([20], [20]), ([20], [20]), ([21, 22, 20], [20, 21, 22]), ([20, 23, 17], [17, 20, 23]), ([17, 24], [17, 24])])
def walk_Route.B40 : List Nat := [0, 0, 3, 7, 0, 0, 48, 112, 240, 511, 1023, 2047, 2047, 8191, 16383, 32767, 65535, 131071, 262143, 524287, 1048575, 2097151, 2097151, 8388607, 16777215, 33554431]
theorem walk_Route.tab40 : rtab .any (opsOf Try.f20 40) = walk_Route.T40 := by kernel_rfl
theorem walk_Route.bits40 : waitsOk walk_Route.T40.2 walk_Route.B40 = true := by kernel_rfl
set_option maxHeartbeats 8000000 in
set_option maxRecDepth 100000 in
theorem walk_Route.calls (k : Nat) (a0_0 : Int) (A0_1 : Option Addr) (c0_1 : Nat) (l0_1 : List (S46)) (a1 : Int) (a2 : Int) (A3 : Option Addr) (c3 : Nat) (l3 : List Int) (r : List Int) (w : World) (hr0_1 : Kd.C k46 w A0_1 l0_1.length l0_1) (hc0_1 : l0_1.length ≤ c0_1) (hr3 : Kd.C (Kd.int .i64) w A3 l3.length l3) (hc3 : l3.length ≤ c3) (h : walk_Route.f k a0_0 l0_1 a1 a2 l3 = some r) :
    Calls Try.prog 20 #[.agg #[.int .i64 a0_0, .slice A0_1 l0_1.length c0_1], .int .i64 a1, .int .i64 a2, .slice A3 l3.length c3] w fun e w' => ∃ v0_ : Value, e = .returned (v0_) ∧ Kd.R (Kd.int .i64) 3 w' w.heap.size (fun _ => True) v0_ r ∧ Below w.heap.size w w' := by
 have hu24 := Try.underlying24
 have hu46 := Try.underlying46
 have HR0_1 := Aside0.mk hr0_1
 have HC0_1 := Aside0.mk hc0_1
 clear hr0_1 hc0_1
 have HR3 := Aside0.mk hr3
 have HC3 := Aside0.mk hc3
 clear hr3 hc3
 have HB := Aside0.mk (Below.refl w.heap.size w)
 have H : ((graph_Right.f k a0_0 l0_1).bind fun t278 => (if t278 = true then (if (mn a1 a2) < 0 then (walk_Route.j0 k a1 a2 l3 true a0_0 l0_1) else (walk_Route.j0 k a1 a2 l3 (decide ((mx a1 a2) ≥ a0_0)) a0_0 l0_1)) else (walk_Route.j0 k a1 a2 l3 true a0_0 l0_1))) = some r := h
 clear h
 have HC5 := Aside0.mk H
 clear H
 go_enter Try.func20, Try.ntmps20
 go_upto_region 1 with (first|((with_reducible refine gate_dst (N := 4) rfl ?_);(try (refine gate_guard (by rfl) ?_;dsimp only));refine box_event ?hg (N := 4) ?hd (cs := #[.int .i64 a0_0, .slice A0_1 l0_1.length c0_1]) (t := 24) ?hr ?_;(case hd => rfl);(case hg => rfl);(case hr => first|(go_simp;done)|(go_simp;rfl));intro gb277 hg w6 hbox hb;have n0_ := Aside0.mk (below_step (by repeat (first|(with_reducible first|exact HB.out|apply below_alloc|apply pw_below_drewN|apply below_drew1)|exact HB.out)) hb);have n1_ := Aside0.mk (hbox);have n2_ := Aside0.mk ((by rw [hg];exact (below_size (by repeat (first|(with_reducible first|exact HB.out|apply below_alloc|apply pw_below_drewN|apply below_drew1)|exact HB.out))) : w.heap.size ≤ gb277));have n3_ := Aside0.mk ((by rw [hg];exact (below_size (by repeat (first|(with_reducible first|exact HB.out|apply below_alloc|apply pw_below_drewN|apply below_drew1)|exact HB.out))) : w.heap.size ≤ gb277));clear HB;have HB := n0_;have BK277 := n1_;have GW277 := n2_;have GE277 := n3_;clear n0_ n1_ n2_ n3_;clear hb hbox hg))
 (try simp only [Act.put, List.setIfInBounds_toArray, List.set_cons_zero, List.set_cons_succ])
 go_cut [39] (fun v39 wc => ∃ (kq : Nat) (x39_4 : Bool), v39 = .bool x39_4 ∧ Aside0 (walk_Route.j0 kq a1 a2 l3 x39_4 a0_0 l0_1 = some r) ∧ Aside0 (kq ≤ k) ∧ Aside0 (wc.heap[gb277]? = some (.cells #[.int .i64 a0_0, (.slice A0_1 l0_1.length c0_1)] 24 (0, 0))) ∧ Aside0 (Below w.heap.size w wc))
 case first =>
  have H := HC5.out
  clear HC5
  replace H := Option.bind_eq_some_iff.mp H
  obtain ⟨t278, A70, H⟩ := H
  replace H : (if t278 = true then (if (mn a1 a2) < 0 then (walk_Route.j0 k a1 a2 l3 true a0_0 l0_1) else (walk_Route.j0 k a1 a2 l3 (decide ((mx a1 a2) ≥ a0_0)) a0_0 l0_1)) else (walk_Route.j0 k a1 a2 l3 true a0_0 l0_1)) = some r := H
  have A7 := Aside0.mk A70
  clear A70
  by_cases c8 : t278 = true
  rotate_left
  · replace c8 := Bool.eq_false_iff.mpr c8
    subst c8
    have H1 : (walk_Route.j0 k a1 a2 l3 true a0_0 l0_1) = some r := by rw [if_neg (show ¬ (false = true) by decide)] at H; exact H
    clear H
    have H := H1
    clear H1
    have H' := Aside0.mk H
    clear H
    have hcz17_0 : w6.cell? ⟨gb277, 0, none⟩ = some (.int .i64 a0_0) := (blk_cell BK277.out 0).trans rfl
    have hcz17_1 : w6.cell? ⟨gb277, 1, none⟩ = some (.slice A0_1 l0_1.length c0_1) := (blk_cell BK277.out 1).trans rfl
    have hfz17_0 := blk_frozen BK277.out 0
    have hfz17_1 := blk_frozen BK277.out 1
    go_wp2_with (first|((with_reducible refine gate_callee (f := 32) rfl ?_);refine goesL_ (some 24) rfl rfl Try.func32 (by kernel_rfl) rfl #[.agg #[.int .i64 a0_0, .slice A0_1 l0_1.length c0_1]] rfl (by (try simp only [List.map_toArray, List.map_cons, List.map_nil]);first|done|rfl|(simp only [List.length_drop, List.length_take];rfl)) ?_;(with_reducible refine (graph_Right.calls k a0_0 _ _ l0_1 false _ ?side1 ?side2 A7.out).mono ?_);(case side1 => repeat (first|exact (Kd.C_below HR0_1.out HB.out)|(with_reducible refine Kd.C_alloc ?_ _)|(with_reducible refine Kd.C_drewN ?_ _)|(with_reducible refine Kd.C_drew ?_)));(case side2 => exact HC0_1.out);rintro e w18 ⟨rfl, hb⟩;refine ⟨_, rfl, ?_⟩;have n0_ := Aside0.mk (blk_below (g := gb277) (o := .cells #[.int .i64 a0_0, .slice A0_1 l0_1.length c0_1] 24 (0, 0)) (by (with_reducible repeat (first|refine blk_drewN ?_ _|refine blk_drew ?_|refine blk_alloc ?_ _));exact BK277.out) hb);have n1_ := Aside0.mk (below_step (by repeat (first|(with_reducible first|exact HB.out|apply below_alloc|apply pw_below_drewN|apply below_drew1|refine below_set ?_ GE277.out)|exact HB.out)) hb);clear BK277;clear HB;have BK277 := n0_;have HB := n1_;clear n0_ n1_;(try clear hb);(try clear hb2);(try clear hk);(try clear hi)))
    go_meet
    exact ⟨_, (true), (by first|rfl|(simp;done)|(simp [*];done)), H', ⟨by first|omega|exact Nat.le_refl _⟩, ⟨by (with_reducible repeat (first|refine blk_drewN ?_ _|refine blk_drew ?_|refine blk_alloc ?_ _));exact BK277.out⟩, ⟨by repeat (first|(with_reducible first|exact HB.out|apply below_alloc|apply pw_below_drewN|apply below_drew1|refine below_set ?_ GE277.out)|exact HB.out)⟩⟩
  subst c8
  have H1 : (if (mn a1 a2) < 0 then (walk_Route.j0 k a1 a2 l3 true a0_0 l0_1) else (walk_Route.j0 k a1 a2 l3 (decide ((mx a1 a2) ≥ a0_0)) a0_0 l0_1)) = some r := by rw [if_pos rfl] at H; exact H
  clear H
  have H := H1
  clear H1
  obtain ⟨ji9, hji9⟩ : ∃ j_ : Int, (mn a1 a2) = j_ := ⟨_, rfl⟩
  replace H : (if (ji9) < 0 then (walk_Route.j0 k a1 a2 l3 true a0_0 l0_1) else (walk_Route.j0 k a1 a2 l3 (decide ((mx a1 a2) ≥ a0_0)) a0_0 l0_1)) = some r := by first | (rw [hji9] at H; exact H) | (simp only [hji9] at H ⊢; exact H)
  (try rw [hji9] at A7)
  have hji9_ : (if a2 < a1 then a2 else a1) = ji9 := hji9
  by_cases c10 : (ji9) < 0
  · rw [if_pos c10] at H
    have c10b0 : decide ((ji9) < 0) = true := decide_eq_true c10
    clear c10
    (first | rw [c10b0] | (simp only [i64_w, i32_w]; rw [c10b0]) | skip)
    have H' := Aside0.mk H
    clear H
    have hcz11_0 : w6.cell? ⟨gb277, 0, none⟩ = some (.int .i64 a0_0) := (blk_cell BK277.out 0).trans rfl
    have hcz11_1 : w6.cell? ⟨gb277, 1, none⟩ = some (.slice A0_1 l0_1.length c0_1) := (blk_cell BK277.out 1).trans rfl
    have hfz11_0 := blk_frozen BK277.out 0
    have hfz11_1 := blk_frozen BK277.out 1
    go_wp2_with (first|((with_reducible refine gate_callee (f := 32) rfl ?_);refine goesL_ (some 24) rfl rfl Try.func32 (by kernel_rfl) rfl #[.agg #[.int .i64 a0_0, .slice A0_1 l0_1.length c0_1]] rfl (by (try simp only [List.map_toArray, List.map_cons, List.map_nil]);first|done|rfl|(simp only [List.length_drop, List.length_take];rfl)) ?_;(with_reducible refine (graph_Right.calls k a0_0 _ _ l0_1 true _ ?side1 ?side2 A7.out).mono ?_);(case side1 => repeat (first|exact (Kd.C_below HR0_1.out HB.out)|(with_reducible refine Kd.C_alloc ?_ _)|(with_reducible refine Kd.C_drewN ?_ _)|(with_reducible refine Kd.C_drew ?_)));(case side2 => exact HC0_1.out);rintro e w12 ⟨rfl, hb⟩;refine ⟨_, rfl, ?_⟩;have n0_ := Aside0.mk (blk_below (g := gb277) (o := .cells #[.int .i64 a0_0, .slice A0_1 l0_1.length c0_1] 24 (0, 0)) (by (with_reducible repeat (first|refine blk_drewN ?_ _|refine blk_drew ?_|refine blk_alloc ?_ _));exact BK277.out) hb);have n1_ := Aside0.mk (below_step (by repeat (first|(with_reducible first|exact HB.out|apply below_alloc|apply pw_below_drewN|apply below_drew1|refine below_set ?_ GE277.out)|exact HB.out)) hb);clear BK277;clear HB;have BK277 := n0_;have HB := n1_;clear n0_ n1_;(try clear hb);(try clear hb2);(try clear hk);(try clear hi)))
    go_meet
    exact ⟨_, (true), (by first|rfl|(simp;done)|(simp [*];done)), H', ⟨by first|omega|exact Nat.le_refl _⟩, ⟨by (with_reducible repeat (first|refine blk_drewN ?_ _|refine blk_drew ?_|refine blk_alloc ?_ _));exact BK277.out⟩, ⟨by repeat (first|(with_reducible first|exact HB.out|apply below_alloc|apply pw_below_drewN|apply below_drew1|refine below_set ?_ GE277.out)|exact HB.out)⟩⟩
  rw [if_neg c10] at H
  have c10b0 : decide ((ji9) < 0) = false := decide_eq_false c10
  clear c10
  (first | rw [c10b0] | (simp only [i64_w, i32_w]; rw [c10b0]) | skip)
  obtain ⟨ji13, hji13⟩ : ∃ j_ : Int, (mx a1 a2) = j_ := ⟨_, rfl⟩
  replace H : (walk_Route.j0 k a1 a2 l3 (decide ((ji13) ≥ a0_0)) a0_0 l0_1) = some r := by first | (rw [hji13] at H; exact H) | (simp only [hji13] at H ⊢; exact H)
  (try rw [hji13] at A7)
  have hji13_ : (if a1 < a2 then a2 else a1) = ji13 := hji13
  have H' := Aside0.mk H
  clear H
  have hcz14_0 : w6.cell? ⟨gb277, 0, none⟩ = some (.int .i64 a0_0) := (blk_cell BK277.out 0).trans rfl
  have hcz14_1 : w6.cell? ⟨gb277, 1, none⟩ = some (.slice A0_1 l0_1.length c0_1) := (blk_cell BK277.out 1).trans rfl
  have hfz14_0 := blk_frozen BK277.out 0
  have hfz14_1 := blk_frozen BK277.out 1
  go_wp2_with (first|((with_reducible refine gate_callee (f := 32) rfl ?_);refine goesL_ (some 24) rfl rfl Try.func32 (by kernel_rfl) rfl #[.agg #[.int .i64 a0_0, .slice A0_1 l0_1.length c0_1]] rfl (by (try simp only [List.map_toArray, List.map_cons, List.map_nil]);first|done|rfl|(simp only [List.length_drop, List.length_take];rfl)) ?_;(with_reducible refine (graph_Right.calls k a0_0 _ _ l0_1 true _ ?side1 ?side2 A7.out).mono ?_);(case side1 => repeat (first|exact (Kd.C_below HR0_1.out HB.out)|(with_reducible refine Kd.C_alloc ?_ _)|(with_reducible refine Kd.C_drewN ?_ _)|(with_reducible refine Kd.C_drew ?_)));(case side2 => exact HC0_1.out);rintro e w15 ⟨rfl, hb⟩;refine ⟨_, rfl, ?_⟩;have n0_ := Aside0.mk (blk_below (g := gb277) (o := .cells #[.int .i64 a0_0, .slice A0_1 l0_1.length c0_1] 24 (0, 0)) (by (with_reducible repeat (first|refine blk_drewN ?_ _|refine blk_drew ?_|refine blk_alloc ?_ _));exact BK277.out) hb);have n1_ := Aside0.mk (below_step (by repeat (first|(with_reducible first|exact HB.out|apply below_alloc|apply pw_below_drewN|apply below_drew1|refine below_set ?_ GE277.out)|exact HB.out)) hb);clear BK277;clear HB;have BK277 := n0_;have HB := n1_;clear n0_ n1_;(try clear hb);(try clear hb2);(try clear hk);(try clear hi);have hcz16_0 : w15.cell? ⟨gb277, 0, none⟩ = some (.int .i64 a0_0) := (blk_cell BK277.out 0).trans rfl;have hcz16_1 : w15.cell? ⟨gb277, 1, none⟩ = some (.slice A0_1 l0_1.length c0_1) := (blk_cell BK277.out 1).trans rfl;have hfz16_0 := blk_frozen BK277.out 0;have hfz16_1 := blk_frozen BK277.out 1))
  go_meet
  exact ⟨_, (decide ((ji13) ≥ a0_0)), (by first|rfl|(simp;done)|(simp only [← hji13] <;> (first|rfl|simp))|(simp [*];done)), H', ⟨by first|omega|exact Nat.le_refl _⟩, ⟨by (with_reducible repeat (first|refine blk_drewN ?_ _|refine blk_drew ?_|refine blk_alloc ?_ _));exact BK277.out⟩, ⟨by repeat (first|(with_reducible first|exact HB.out|apply below_alloc|apply pw_below_drewN|apply below_drew1|refine below_set ?_ GE277.out)|exact HB.out)⟩⟩
 clear HC5
 try clear c1
 try clear c2
 try clear p2
 try clear c3
 try clear c8
 try clear c10
 try clear c10b0
 try clear hcz11_0
 try clear hcz11_1
 try clear hcz14_0
 try clear hcz14_1
 try clear hcz16_0
 try clear hcz16_1
 try clear hcz17_0
 try clear hcz17_1
 try clear hfz11_0
 try clear hfz11_1
 try clear hfz14_0
 try clear hfz14_1
 try clear hfz16_0
 try clear hfz16_1
 try clear hfz17_0
 try clear hfz17_1
 obtain ⟨kq, x39_4, rfl, HA, HJ4, BK277, HB⟩ := hcut
 rcases kq with _ | kj4
 · exact absurd HA.out (by simp [walk_Route.j0])
 have H := HA.out
 clear HA
 simp only [walk_Route.j0] at H
 by_cases c19 : x39_4 = true
 · subst c19
   have H1 : (some ([] : List Int)) = some r := by rw [if_pos rfl] at H; exact H
   clear H
   have H := H1
   clear H1
   obtain rfl := Option.some.inj H
   go_wp2
   go_ret
   exact ⟨_, by first|rfl|(simp [errW_none, errW_some] <;> rfl)|(simp [*, errW_none, errW_some] <;> rfl), by first|exact Kd.R_nil _ _ _ _ _|exact Kd.N_nil _ _ _ _ _|exact Kd.V_nil _ _ _ _ _|exact Kd.Q_nil _ _ _ _ _|exact Kd.S_nil _ _ _ _ _, by repeat (first|(with_reducible first|exact HB.out|apply below_alloc|apply pw_below_drewN|apply below_drew1|refine below_set ?_ GE277.out)|exact HB.out)⟩
 replace c19 := Bool.eq_false_iff.mpr c19
 subst c19
 have H1 : (if 0 ≤ a0_0 then (if (a0_0 : Int).toNat ≤ 11728124029610 then (walk_Route.l0 kj4 a1 a2 l3 (List.replicate (a0_0 : Int).toNat []) l0_1 (l0_1.length : Int) 0 a0_0 l0_1) else (none)) else (none)) = some r := by rw [if_neg (show ¬ (false = true) by decide)] at H; exact H
 clear H
 have H := H1
 clear H1
 by_cases c20 : 0 ≤ a0_0
 rotate_left
 · rw [if_neg c20] at H
   exact absurd H (by simp)
 rw [if_pos c20] at H
 have c20b0 := eq_true c20
 have c20b1 : decide (0 ≤ a0_0) = true := decide_eq_true c20
 clear c20
 by_cases c21 : (a0_0 : Int).toNat ≤ 11728124029610
 rotate_left
 · rw [if_neg c21] at H
   exact absurd H (by simp)
 rw [if_pos c21] at H
 have c21b0 := eq_true c21
 have c21b1 : decide ((a0_0 : Int).toNat ≤ 11728124029610) = true := decide_eq_true c21
 clear c21
 obtain ⟨y279, hy279⟩ : ∃ y_ : List (List Int), y_ = (List.replicate (a0_0 : Int).toNat []) := ⟨_, rfl⟩
 replace H : (walk_Route.l0 kj4 a1 a2 l3 y279 l0_1 (l0_1.length : Int) 0 a0_0 l0_1) = some r := by first | (rw [hy279]; with_reducible exact H) | (have H2_ := (Option.bind_some _ _).symm.trans H; rw [hy279]; with_reducible exact H2_) | (have H2_ := (Option.bind_some _ _).symm.trans H; with_reducible exact H2_) | with_reducible exact H | (rw [hy279]; exact H) | exact H
 have Ny279 := Aside0.mk hy279
 clear hy279
 have H' := Aside0.mk H
 clear H
 have hcz22_0 : wc.cell? ⟨gb277, 0, none⟩ = some (.int .i64 a0_0) := (blk_cell BK277.out 0).trans rfl
 have hcz22_1 : wc.cell? ⟨gb277, 1, none⟩ = some (.slice A0_1 l0_1.length c0_1) := (blk_cell BK277.out 1).trans rfl
 have hfz22_0 := blk_frozen BK277.out 0
 have hfz22_1 := blk_frozen BK277.out 1
 go_wp2_with (first|((with_reducible refine gate_dst (N := 42) rfl ?_);(try (refine gate_guard (by rfl) ?_;dsimp only));refine Kd.S_make (Kd.slice 3 (Kd.int .i64)) _ 25 rfl (N := 42) rfl 36 _ _ rfl a0_0 rfl rfl Try.underlying36 (.slice none 0 0) 24 info25 rfl (by decide) (by omega) [] (ok := fun _ => True) (okp := fun _ => True) ⟨_, rfl, Kd.R_nil _ _ _ _ _⟩ (fun _ hk => hk) trivial (of_decide_eq_true (by first|(with_reducible assumption)|assumption)) (Nat.le_trans (Nat.mul_le_mul_right _ (of_decide_eq_true (by first|(with_reducible assumption)|assumption) : a0_0.toNat ≤ 11728124029610)) (by omega)) (Below.refl _ _) (Nat.le_refl _) ?_;intro v280 w23 ho24 hb hg_ hnew_;clear hg_ hnew_;(first|rw [← Ny279.out] at ho24|(simp only [Int.reduceToNat] at ho24;rw [← Ny279.out] at ho24));have n0_ := Aside0.mk (Kd.S_lower ho24 (below_size (by repeat (first|(with_reducible first|exact HB.out|apply below_alloc|apply pw_below_drewN|apply below_drew1|refine below_set ?_ GE277.out)|exact HB.out))));have n1_ := Aside0.mk (blk_below (g := gb277) (o := .cells #[.int .i64 a0_0, .slice A0_1 l0_1.length c0_1] 24 (0, 0)) (by (with_reducible repeat (first|refine blk_drewN ?_ _|refine blk_drew ?_|refine blk_alloc ?_ _));exact BK277.out) hb);have n2_ := Aside0.mk (below_step (by repeat (first|(with_reducible first|exact HB.out|apply below_alloc|apply pw_below_drewN|apply below_drew1|refine below_set ?_ GE277.out)|exact HB.out)) hb);clear BK277;clear HB;have HO281 := n0_;have BK277 := n1_;have HB := n2_;clear n0_ n1_ n2_;clear hb ho24;have hcz25_0 : w23.cell? ⟨gb277, 0, none⟩ = some (.int .i64 a0_0) := (blk_cell BK277.out 0).trans rfl;have hcz25_1 : w23.cell? ⟨gb277, 1, none⟩ = some (.slice A0_1 l0_1.length c0_1) := (blk_cell BK277.out 1).trans rfl;have hfz25_0 := blk_frozen BK277.out 0;have hfz25_1 := blk_frozen BK277.out 1))
 go_loopg [46] kj4 (fun kq v46 w' => ∃ (x9_2 : List (List Int)) (x46_2 : Int), v46 = .int .i64 x46_2 ∧ Aside0 (walk_Route.l0 kq a1 a2 l3 x9_2 l0_1 (l0_1.length : Int) x46_2 a0_0 l0_1 = some r) ∧ Aside0 (kq ≤ kj4) ∧ Aside0 (Kd.S (Kd.slice 3 (Kd.int .i64)) 25 w' w.heap.size (fun _ => True) v280 x9_2) ∧ Aside0 (w'.heap[gb277]? = some (.cells #[.int .i64 a0_0, (.slice A0_1 l0_1.length c0_1)] 24 (0, 0))) ∧ Aside0 (Below w.heap.size w w'))
 case atStart => exact ⟨(y279), (0), (by first | rfl | (simp; done) | (simp [*]; done)), H', ⟨Nat.le_refl _⟩, ⟨by (with_reducible repeat (first | apply Kd.S_alloc | apply Kd.S_drewN | apply Kd.S_drew)); exact HO281.out⟩, ⟨by (with_reducible repeat (first | refine blk_drewN ?_ _ | refine blk_drew ?_ | refine blk_alloc ?_ _)); exact BK277.out⟩, ⟨by repeat (first | (with_reducible first | exact HB.out | apply below_alloc | apply pw_below_drewN | apply below_drew1 | refine below_set ?_ GE277.out) | exact HB.out)⟩⟩
 clear H'
 try clear c1
 try clear c2
 try clear p2
 try clear c3
 try clear c8
 try clear c10
 try clear c10b0
 try clear c19
 try clear c20
 try clear c20b0
 try clear c20b1
 try clear c21
 try clear c21b0
 try clear c21b1
 try clear hcz11_0
 try clear hcz11_1
 try clear hcz14_0
 try clear hcz14_1
 try clear hcz16_0
 try clear hcz16_1
 try clear hcz17_0
 try clear hcz17_1
 try clear hcz22_0
 try clear hcz22_1
 try clear hcz25_0
 try clear hcz25_1
 try clear hfz11_0
 try clear hfz11_1
 try clear hfz14_0
 try clear hfz14_1
 try clear hfz16_0
 try clear hfz16_1
 try clear hfz17_0
 try clear hfz17_1
 try clear hfz22_0
 try clear hfz22_1
 try clear hfz25_0
 try clear hfz25_1
 try clear p2
 obtain ⟨x9_2, x46_2, rfl, HA, HK2, HO_9, BK277, HB⟩ := hrel
 rcases gk with _ | k2
 · exact absurd HA.out (by simp [walk_Route.l0])
 have H := HA.out
 clear HA
 simp only [walk_Route.l0] at H
 by_cases c26 : x46_2 < (l0_1.length : Int)
 · as_aux_lemma =>
   rw [if_pos c26] at H
   have c26b0 : decide (x46_2 < (l0_1.length : Int)) = true := decide_eq_true c26
   clear c26
   by_cases c27 : 0 ≤ x46_2
   rotate_left
   · rw [if_neg c27] at H
     exact absurd H (by simp)
   rw [if_pos c27] at H
   have c27b0 : decide (0 ≤ x46_2) = true := decide_eq_true c27
   clear c27
   by_cases c28 : x46_2 < (l0_1.length : Int)
   rotate_left
   · rw [if_neg c28] at H
     exact absurd H (by simp)
   rw [if_pos c28] at H
   have c28b0 : decide (x46_2 < (l0_1.length : Int)) = true := decide_eq_true c28
   clear c28
   by_cases c29 : 0 ≤ ((rd_T46 l0_1 x46_2).f0)
   rotate_left
   · rw [if_neg c29] at H
     exact absurd H (by simp)
   rw [if_pos c29] at H
   have c29b0 : decide (0 ≤ ((rd_T46 l0_1 x46_2).f0)) = true := decide_eq_true c29
   clear c29
   by_cases c30 : ((rd_T46 l0_1 x46_2).f0) < (x9_2.length : Int)
   rotate_left
   · rw [if_neg c30] at H
     exact absurd H (by simp)
   rw [if_pos c30] at H
   have c30b0 : decide (((rd_T46 l0_1 x46_2).f0) < (x9_2.length : Int)) = true := decide_eq_true c30
   clear c30
   by_cases c31 : (rd_L5 x9_2 ((rd_T46 l0_1 x46_2).f0)).length < 17592186044416
   rotate_left
   · rw [if_neg c31] at H
     exact absurd H (by simp)
   rw [if_pos c31] at H
   have LMc31 := Aside0.mk c31
   clear c31
   obtain ⟨y285, hy285⟩ : ∃ y_ : List Int, y_ = ((rd_L5 x9_2 ((rd_T46 l0_1 x46_2).f0)) ++ [(rd_T46 l0_1 x46_2).f1]) := ⟨_, rfl⟩
   replace H : ((some (x9_2.set (((rd_T46 l0_1 x46_2).f0) : Int).toNat y285 : List (List Int))).bind fun y288 => (if 0 ≤ ((rd_T46 l0_1 x46_2).f1) then (if ((rd_T46 l0_1 x46_2).f1) < (x9_2.length : Int) then (if (rd_L5 y288 ((rd_T46 l0_1 x46_2).f1)).length < 17592186044416 then (walk_Route.l0 k2 a1 a2 l3 (y288.set (((rd_T46 l0_1 x46_2).f1) : Int).toNat ((rd_L5 y288 ((rd_T46 l0_1 x46_2).f1)) ++ [(rd_T46 l0_1 x46_2).f0])) l0_1 (l0_1.length : Int) (wrap64 (x46_2 + 1)) a0_0 l0_1) else (none)) else (none)) else (none))) = some r := by first | (rw [hy285]; with_reducible exact H) | (have H2_ := (Option.bind_some _ _).symm.trans H; rw [hy285]; with_reducible exact H2_) | (have H2_ := (Option.bind_some _ _).symm.trans H; with_reducible exact H2_) | with_reducible exact H | (rw [hy285]; exact H) | exact H
   have Ny285 := Aside0.mk hy285
   clear hy285
   obtain ⟨y288, hy288⟩ : ∃ y_ : List (List Int), y_ = (x9_2.set (((rd_T46 l0_1 x46_2).f0) : Int).toNat y285) := ⟨_, rfl⟩
   replace H : (if 0 ≤ ((rd_T46 l0_1 x46_2).f1) then (if ((rd_T46 l0_1 x46_2).f1) < (x9_2.length : Int) then (if (rd_L5 y288 ((rd_T46 l0_1 x46_2).f1)).length < 17592186044416 then (walk_Route.l0 k2 a1 a2 l3 (y288.set (((rd_T46 l0_1 x46_2).f1) : Int).toNat ((rd_L5 y288 ((rd_T46 l0_1 x46_2).f1)) ++ [(rd_T46 l0_1 x46_2).f0])) l0_1 (l0_1.length : Int) (wrap64 (x46_2 + 1)) a0_0 l0_1) else (none)) else (none)) else (none)) = some r := by first | (rw [hy288]; with_reducible exact H) | (have H2_ := (Option.bind_some _ _).symm.trans H; rw [hy288]; with_reducible exact H2_) | (have H2_ := (Option.bind_some _ _).symm.trans H; with_reducible exact H2_) | with_reducible exact H | (rw [hy288]; exact H) | exact H
   have Ny288 := Aside0.mk hy288
   clear hy288
   by_cases c33 : 0 ≤ ((rd_T46 l0_1 x46_2).f1)
   rotate_left
   · rw [if_neg c33] at H
     exact absurd H (by simp)
   rw [if_pos c33] at H
   have c33b0 : decide (0 ≤ ((rd_T46 l0_1 x46_2).f1)) = true := decide_eq_true c33
   clear c33
   by_cases c34 : ((rd_T46 l0_1 x46_2).f1) < (x9_2.length : Int)
   rotate_left
   · rw [if_neg c34] at H
     exact absurd H (by simp)
   rw [if_pos c34] at H
   have c34b0 : decide (((rd_T46 l0_1 x46_2).f1) < (x9_2.length : Int)) = true := decide_eq_true c34
   clear c34
   by_cases c35 : (rd_L5 y288 ((rd_T46 l0_1 x46_2).f1)).length < 17592186044416
   rotate_left
   · rw [if_neg c35] at H
     exact absurd H (by simp)
   rw [if_pos c35] at H
   have LMc35 := Aside0.mk c35
   clear c35
   obtain ⟨y290, hy290⟩ : ∃ y_ : List Int, y_ = ((rd_L5 y288 ((rd_T46 l0_1 x46_2).f1)) ++ [(rd_T46 l0_1 x46_2).f0]) := ⟨_, rfl⟩
   replace H : (walk_Route.l0 k2 a1 a2 l3 (y288.set (((rd_T46 l0_1 x46_2).f1) : Int).toNat y290) l0_1 (l0_1.length : Int) (wrap64 (x46_2 + 1)) a0_0 l0_1) = some r := by first | (rw [hy290]; with_reducible exact H) | (have H2_ := (Option.bind_some _ _).symm.trans H; rw [hy290]; with_reducible exact H2_) | (have H2_ := (Option.bind_some _ _).symm.trans H; with_reducible exact H2_) | with_reducible exact H | (rw [hy290]; exact H) | exact H
   have Ny290 := Aside0.mk hy290
   clear hy290
   obtain ⟨y293, hy293⟩ : ∃ y_ : List (List Int), y_ = (y288.set (((rd_T46 l0_1 x46_2).f1) : Int).toNat y290) := ⟨_, rfl⟩
   replace H : (walk_Route.l0 k2 a1 a2 l3 y293 l0_1 (l0_1.length : Int) (wrap64 (x46_2 + 1)) a0_0 l0_1) = some r := by first | (rw [hy293]; with_reducible exact H) | (have H2_ := (Option.bind_some _ _).symm.trans H; rw [hy293]; with_reducible exact H2_) | (have H2_ := (Option.bind_some _ _).symm.trans H; with_reducible exact H2_) | with_reducible exact H | (rw [hy293]; exact H) | exact H
   have Ny293 := Aside0.mk hy293
   clear hy293
   have H' := Aside0.mk H
   clear H
   have p282 : 0 ≤ (x46_2 : Int) := of_decide_eq_true (by first | (with_reducible assumption) | assumption)
   have q282 : x46_2 < (l0_1.length : Int) := of_decide_eq_true (by first | (with_reducible assumption) | assumption)
   obtain ⟨ad282, e282, hx282_0, hx282_1⟩ := at_T46 HR0_1.out x46_2 p282 q282
   cases e282
   replace hx282_0 := (HB.out.cell (World.block_lt_of_cell? w _ hx282_0)).trans hx282_0
   replace hx282_1 := (HB.out.cell (World.block_lt_of_cell? w _ hx282_1)).trans hx282_1
   replace p282 := eq_true p282
   replace q282 := eq_true q282
   try go_wp2_with (first|((with_reducible refine gate_dst (N := 11) rfl ?_);(try (refine gate_guard (by rfl) ?_;dsimp only));refine box_event ?hg (N := 11) ?hd (cs := #[.int .i64 0, .int .i64 0]) (t := 46) ?hr ?_;(case hd => rfl);(case hg => rfl);(case hr => first|(go_simp;done)|(go_simp;rfl));intro gb283 hg w37 hbox hb;have n0_ := Aside0.mk (Kd.S_below (by (with_reducible repeat (first|apply Kd.S_alloc|apply Kd.S_drewN|apply Kd.S_drew));exact HO_9.out) hb);have n1_ := Aside0.mk (blk_below (g := gb277) (o := .cells #[.int .i64 a0_0, .slice (some ad282) l0_1.length c0_1] 24 (0, 0)) (by (with_reducible repeat (first|refine blk_drewN ?_ _|refine blk_drew ?_|refine blk_alloc ?_ _));exact BK277.out) hb);have n2_ := Aside0.mk (below_step (by repeat (first|(with_reducible first|exact HB.out|apply below_alloc|apply pw_below_drewN|apply below_drew1|refine below_set ?_ GE277.out)|exact HB.out)) hb);have n3_ := Aside0.mk (hbox);have n4_ := Aside0.mk ((by rw [hg];exact (below_size (by repeat (first|(with_reducible first|exact HB.out|apply below_alloc|apply pw_below_drewN|apply below_drew1|refine below_set ?_ GE277.out)|exact HB.out))) : w.heap.size ≤ gb283));have n5_ := Aside0.mk ((by rw [hg];exact (below_size (by repeat (first|(with_reducible first|exact HB.out|apply below_alloc|apply pw_below_drewN|apply below_drew1|refine below_set ?_ GE277.out)|exact HB.out))) : w.heap.size ≤ gb283));have n6_ := Aside0.mk ((by rw [hg];exact Nat.ne_of_lt (blk_lt (g := gb277) (o := .cells #[.int .i64 a0_0, .slice (some ad282) l0_1.length c0_1] 24 (0, 0)) (by (with_reducible repeat (first|refine blk_drewN ?_ _|refine blk_drew ?_|refine blk_alloc ?_ _));exact BK277.out)) : gb277 ≠ gb283));have n7_ := Aside0.mk ((by rw [hg];exact Nat.ne_of_gt (blk_lt (g := gb277) (o := .cells #[.int .i64 a0_0, .slice (some ad282) l0_1.length c0_1] 24 (0, 0)) (by (with_reducible repeat (first|refine blk_drewN ?_ _|refine blk_drew ?_|refine blk_alloc ?_ _));exact BK277.out)) : gb283 ≠ gb277));clear HO_9;clear BK277;clear HB;have HO_9 := n0_;have BK277 := n1_;have HB := n2_;have BK283 := n3_;have GW283 := n4_;have GE283 := n5_;have NB277_283 := n6_;have NB283_277 := n7_;clear n0_ n1_ n2_ n3_ n4_ n5_ n6_ n7_;clear hb hbox hg;have hnb38 := NB283_277.out;have hnc38 := NB277_283.out;have hcz39_0 : w37.cell? ⟨gb283, 0, none⟩ = some (.int .i64 0) := (blk_cell BK283.out 0).trans rfl;have hcz39_1 : w37.cell? ⟨gb283, 1, none⟩ = some (.int .i64 0) := (blk_cell BK283.out 1).trans rfl;have hfz39_0 := blk_frozen BK283.out 0;have hfz39_1 := blk_frozen BK283.out 1))
   have n0_ : Aside0 (Kd.S (Kd.slice 3 (Kd.int .i64)) 25 ((w37.setCell ⟨gb283, 0, none⟩ (.int .i64 ((rd_T46 l0_1 x46_2).f0))).setCell ⟨gb283, 1, none⟩ (.int .i64 ((rd_T46 l0_1 x46_2).f1))) w.heap.size (fun _ => True) v280 x9_2) := ⟨by (with_reducible repeat (first | apply Kd.S_alloc | apply Kd.S_drewN | apply Kd.S_drew)); exact Kd.S_mono (Kd.S_far (p := ⟨gb283, 1, none⟩) (Kd.S_far (p := ⟨gb283, 0, none⟩) (Kd.S_types HO_9.out BK283.out (by decide)) (fun _ hk => hk.2) (.int .i64 ((rd_T46 l0_1 x46_2).f0))) (fun _ hk => hk.2) (.int .i64 ((rd_T46 l0_1 x46_2).f1))) (fun _ hk => trivial)⟩
   have n1_ : Aside0 (((w37.setCell ⟨gb283, 0, none⟩ (.int .i64 ((rd_T46 l0_1 x46_2).f0))).setCell ⟨gb283, 1, none⟩ (.int .i64 ((rd_T46 l0_1 x46_2).f1))).heap[gb277]? = some (.cells #[.int .i64 a0_0, .slice (some ad282) l0_1.length c0_1] 24 (0, 0))) := ⟨by (with_reducible repeat (first | refine blk_drewN ?_ _ | refine blk_drew ?_ | refine blk_alloc ?_ _)); refine blk_far ?_ NB277_283.out _; (with_reducible repeat (first | refine blk_drewN ?_ _ | refine blk_drew ?_ | refine blk_alloc ?_ _)); refine blk_far ?_ NB277_283.out _; (with_reducible repeat (first | refine blk_drewN ?_ _ | refine blk_drew ?_ | refine blk_alloc ?_ _)); exact BK277.out⟩
   have n2_ : Aside0 (((w37.setCell ⟨gb283, 0, none⟩ (.int .i64 ((rd_T46 l0_1 x46_2).f0))).setCell ⟨gb283, 1, none⟩ (.int .i64 ((rd_T46 l0_1 x46_2).f1))).heap[gb283]? = some (.cells #[.int .i64 ((rd_T46 l0_1 x46_2).f0), .int .i64 ((rd_T46 l0_1 x46_2).f1)] 46 (0, 0))) := ⟨by (with_reducible repeat (first | refine blk_drewN ?_ _ | refine blk_drew ?_ | refine blk_alloc ?_ _)); refine blk_put (cs := #[.int .i64 ((rd_T46 l0_1 x46_2).f0), .int .i64 0]) ?_ 1 _ rfl; (with_reducible repeat (first | refine blk_drewN ?_ _ | refine blk_drew ?_ | refine blk_alloc ?_ _)); refine blk_put (cs := #[.int .i64 0, .int .i64 0]) ?_ 0 _ rfl; (with_reducible repeat (first | refine blk_drewN ?_ _ | refine blk_drew ?_ | refine blk_alloc ?_ _)); exact BK283.out⟩
   have n3_ : Aside0 (Below w.heap.size w ((w37.setCell ⟨gb283, 0, none⟩ (.int .i64 ((rd_T46 l0_1 x46_2).f0))).setCell ⟨gb283, 1, none⟩ (.int .i64 ((rd_T46 l0_1 x46_2).f1)))) := ⟨by repeat (first | (with_reducible first | exact HB.out | apply below_alloc | apply pw_below_drewN | apply below_drew1 | refine below_set ?_ GE277.out | refine below_set ?_ GE283.out) | exact HB.out)⟩
   (try clear HO_9)
   (try clear BK277)
   (try clear BK283)
   (try clear HB)
   generalize ((w37.setCell ⟨gb283, 0, none⟩ (.int .i64 ((rd_T46 l0_1 x46_2).f0))).setCell ⟨gb283, 1, none⟩ (.int .i64 ((rd_T46 l0_1 x46_2).f1))) = w40 at n0_ n1_ n2_ n3_ ⊢
   have HO_9 := n0_
   have BK277 := n1_
   have BK283 := n2_
   have HB := n3_
   clear n0_ n1_ n2_ n3_
   have n0_ := Aside0.mk (Kd.S_drew HO_9.out)
   have n1_ := Aside0.mk (blk_drew BK277.out)
   have n2_ := Aside0.mk (blk_drew BK283.out)
   have n3_ := Aside0.mk (below_drew1 HB.out)
   clear HO_9
   clear BK277
   clear BK283
   clear HB
   have HO_9 := n0_
   have BK277 := n1_
   have BK283 := n2_
   have HB := n3_
   clear n0_ n1_ n2_ n3_
   obtain ⟨Ao42, co42, eo42⟩ := Kd.S_slice HO_9.out
   (first | subst eo42 | (injection eo42 with f1_ f2_ f3_; have f4_ := f1_.symm; have f5_ := f3_.symm; clear f1_ f2_ f3_; subst f4_; subst f5_))
   have p284 : 0 ≤ (((rd_T46 l0_1 x46_2).f0) : Int) := of_decide_eq_true (by first | (with_reducible assumption) | assumption)
   have q284 : ((rd_T46 l0_1 x46_2).f0) < (x9_2.length : Int) := of_decide_eq_true (by first | (with_reducible assumption) | assumption)
   obtain ⟨ad284, A284_0, c284_0, e284, hx284_0, hl284_0, hi284_0⟩ := at_L5 (Kd.S_reads' HO_9.out).2.2 ((rd_T46 l0_1 x46_2).f0) p284 q284
   cases e284
   obtain ⟨ce284, hce284, hMe284, hcc284⟩ := Kd.S_get HO_9.out [] ((rd_T46 l0_1 x46_2).f0) p284 (by first | exact q284 | exact of_decide_eq_true (by first | (with_reducible assumption) | assumption) | (have e_ := (Kd.S_reads' HO_9.out).1; omega))
   obtain ⟨ve284_0, rfl, ge284_0⟩ := hMe284
   have hv284_0 := hcc284 0 _ rfl
   rw [Nat.add_zero, show ((Kd.slice 3 (Kd.int .i64))).sz = 1 from rfl, Nat.mul_one] at hv284_0
   replace hv284_0 := Option.some.inj (hv284_0.symm.trans hx284_0)
   rw [hv284_0] at ge284_0
   have HL284_0 := Aside0.mk (show Kd.R (Kd.int .i64) 3 _ _ _ _ (rd_L5 x9_2 ((rd_T46 l0_1 x46_2).f0)) from ge284_0)
   clear hv284_0 ge284_0
   have HX284_0 := Aside0.mk hx284_0
   clear hcc284 hce284
   have HR284_0 := Aside0.mk hi284_0
   have HC284_0 := Aside0.mk hl284_0
   clear hi284_0 hl284_0
   replace p284 := eq_true p284
   replace q284 := eq_true q284
   obtain ⟨go43, co43, eo43, gb43, gl43, cl43, HG43⟩ := Kd.S_form HO_9.out (by have h_ : (((rd_T46 l0_1 x46_2).f0) : Int) < ((x9_2.length : Int) : Int) := of_decide_eq_true (by first | (with_reducible assumption) | assumption); have h2_ : 0 ≤ (((rd_T46 l0_1 x46_2).f0) : Int) := (of_decide_eq_true (by first | (with_reducible assumption) | assumption)); omega)
   (first | cases eo43 | (injection eo43 with ea_ en_ ec_; (first | subst ea_ | (injection ea_ with ea_; subst ea_)); subst ec_; clear en_))
   have GB43 := Aside0.mk gb43
   have GG43 := Aside0.mk HG43
   clear gb43 gl43 HG43
   (first | simp only [add_plain] at hx284_0 | skip)
   obtain ⟨oki43, ce43, hcl43, hM43, hcc43, _, _, hH43⟩ := Kd.S_elem HO_9.out [] (((rd_T46 l0_1 x46_2).f0) : Int) (of_decide_eq_true (by first | (with_reducible assumption) | assumption)) (by have h_ : (((rd_T46 l0_1 x46_2).f0) : Int) < ((x9_2.length : Int) : Int) := of_decide_eq_true (by first | (with_reducible assumption) | assumption); first | exact h_ | (have e_ := (Kd.S_reads' HO_9.out).1; omega) | simpa using h_)
   obtain ⟨ve43_0, rfl, ge43_0⟩ := hM43
   have hv43 := hcc43 0 _ rfl
   have hX43 := HX284_0.out
   (try simp only [add_plain] at hX43)
   (try simp only [Nat.add_zero] at hv43)
   (try rw [show ((Kd.slice 3 (Kd.int .i64))).sz = 1 from rfl, Nat.mul_one] at hv43)
   replace hv43 := Option.some.inj (hv43.symm.trans hX43)
   subst hv43
   clear hX43 hcc43 hcl43
   have UU43 := Aside0.mk (show Kd.R (Kd.int .i64) 3 _ w.heap.size oki43 (.slice A284_0 (rd_L5 x9_2 ((rd_T46 l0_1 x46_2).f0)).length c284_0) (rd_L5 x9_2 ((rd_T46 l0_1 x46_2).f0)) from ge43_0)
   have HH43 := Aside0.mk hH43
   have HN43 := Aside0.mk (Kd.S_reads' HO_9.out).1
   clear hH43 ge43_0
   (first | simp only [add_plain] at hx284_0 | simp only [add_at] at hx284_0 | simp only [Addr.add, Nat.zero_add] at hx284_0 | skip)
   as_aux_lemma =>
   refine start_ (n := 14) (S := fun w' => w'.cell? ⟨gb283, 0, none⟩ = some (.int .i64 ((rd_T46 l0_1 x46_2).f0)) ∧ w'.cell? ⟨gb283, 1, none⟩ = some (.int .i64 ((rd_T46 l0_1 x46_2).f1)) ∧ w'.cell? ⟨go43, (((rd_T46 l0_1 x46_2).f0)).toNat, none⟩ = some (.slice A284_0 (rd_L5 x9_2 ((rd_T46 l0_1 x46_2).f0)).length c284_0)) (ds := [13]) #[Z,Z,Z,Z,Z,Z,Z,Z,Z,Z,Z,Z,Z,Z] (by kernel_rfl) rfl rfl ⟨(blk_cell BK283.out 0).trans rfl, (blk_cell BK283.out 1).trans rfl, hx284_0⟩ (fun hHeld => ?_); refine with_tabW walk_Route.tab7 walk_Route.bits7 (fun HT_ HW_ => ?_)
   generalize w40.drew = w41 at HO_9 BK277 BK283 HB GG43 HH43 HL284_0 HR284_0 HX284_0 UU43 hx284_0 hHeld ⊢
   refine pX 0 (some 50) ?_ #[Y,Z,Z,Z,Z,Z,Z,Z,Z,Z,Z,Z,Z,Z] rfl rfl (any_of HT_.out (by kernel_rfl)) (fun _ _ _ h => h) (Or.inl ⟨by rfl, ?_⟩) ?_ ?_ ?_
   rotate_left
   · intro w'
     go_simp
     with_reducible rfl
   rotate_left
   · simp only [Nz]
     rfl
   refine pX 1 (some 51) ?_ #[Y,Y,Z,Z,Z,Z,Z,Z,Z,Z,Z,Z,Z,Z] rfl rfl (any_of HT_.out (by kernel_rfl)) (fun _ _ _ h => h) (Or.inl ⟨by rfl, ?_⟩) ?_ ?_ ?_
   rotate_left
   · intro w'
     go_simp
     with_reducible rfl
   rotate_left
   · simp only [Nz]
     rfl
   refine pX 3 (some 53) ?_ #[Y,Y,Z,Y,Z,Z,Z,Z,Z,Z,Z,Z,Z,Z] rfl rfl (any_of HT_.out (by kernel_rfl)) (fun _ _ _ h => h) (Or.inl ⟨by rfl, ?_⟩) ?_ ?_ ?_
   rotate_left
   · intro w'
     go_simp
     with_reducible rfl
   rotate_left
   · simp only [Nz]
     rfl
   refine pX 4 (some 54) ?_ #[Y,Y,Z,Y,Y,Z,Z,Z,Z,Z,Z,Z,Z,Z] rfl rfl (any_of HT_.out (by kernel_rfl)) (fun _ _ _ h => h) (Or.inl ⟨by rfl, ?_⟩) ?_ ?_ ?_
   rotate_left
   · intro w'
     go_simp
     with_reducible rfl
   rotate_left
   · simp only [Nz]
     rfl
   refine pX 8 (some 58) ?_ #[Y,Y,Z,Y,Y,Z,Z,Z,Y,Z,Z,Z,Z,Z] rfl rfl (any_of HT_.out (by kernel_rfl)) (fun _ _ _ h => h) (Or.inl ⟨by rfl, ?_⟩) ?_ ?_ ?_
   rotate_left
   · intro w'
     go_simp
     with_reducible rfl
   rotate_left
   · simp only [Nz]
     rfl
   refine tX 2 (some 52) ?_ #[Y,Y,Y,Y,Y,Z,Z,Z,Y,Z,Z,Z,Z,Z] rfl rfl (take_ofW HT_.out HW_.out (by kernel_rfl)) (fun _ _ _ h => h) (Or.inl ⟨by rfl, ?_⟩) hHeld ?_ ?_ ?_
   rotate_left
   · rintro w' ⟨s0, s1, s2⟩
     go_simp
     with_reducible rfl
   rotate_left
   · simp only [Nz]
     rfl
   refine tX 5 (some 55) ?_ #[Y,Y,Y,Y,Y,Y,Z,Z,Y,Z,Z,Z,Z,Z] rfl rfl (take_ofW HT_.out HW_.out (by kernel_rfl)) (fun _ _ _ h => h) (Or.inl ⟨by rfl, ?_⟩) hHeld ?_ ?_ ?_
   rotate_left
   · rintro w' ⟨s0, s1, s2⟩
     go_simp
     with_reducible rfl
   rotate_left
   · simp only [Nz]
     rfl
   refine pX 6 (some 56) ?_ #[Y,Y,Y,Y,Y,Y,Y,Z,Y,Z,Z,Z,Z,Z] rfl rfl (any_of HT_.out (by kernel_rfl)) (fun _ _ _ h => h) (Or.inl ⟨by rfl, ?_⟩) ?_ ?_ ?_
   rotate_left
   · intro w'
     go_simp
     with_reducible rfl
   rotate_left
   · simp only [Nz]
     rfl
   refine tX 7 (some 57) ?_ #[Y,Y,Y,Y,Y,Y,Y,Y,Y,Z,Z,Z,Z,Z] rfl rfl (take_ofW HT_.out HW_.out (by kernel_rfl)) (fun _ _ _ h => h) (Or.inl ⟨by rfl, ?_⟩) hHeld ?_ ?_ ?_
   rotate_left
   · rintro w' ⟨s0, s1, s2⟩
     go_simp
     with_reducible rfl
   rotate_left
   · simp only [Nz]
     rfl
   refine tX 9 (some 59) ?_ #[Y,Y,Y,Y,Y,Y,Y,Y,Y,Y,Z,Z,Z,Z] rfl rfl (take_ofW HT_.out HW_.out (by kernel_rfl)) (fun _ _ _ h => h) (Or.inl ⟨by rfl, ?_⟩) hHeld ?_ ?_ ?_
   rotate_left
   · rintro w' ⟨s0, s1, s2⟩
     go_simp
     with_reducible rfl
   rotate_left
   · simp only [Nz]
     rfl
   refine one_ (i := 10) (N := some 60) #[Y,Y,Y,Y,Y,Y,Y,Y,Y,Y,Y,Z,Z,Z] rfl rfl (one_of HT_.out (by kernel_rfl)) (by decide) (fun K hK => ?_)
   refine value_ (w1 := ?_) (v := ?_) (by rfl) rfl ?_ ?_
   rotate_left 2
   · go_simp
     constructor
     rotate_left
     · rfl
     rfl
   refine hK.out _ _ ⟨(blk_cell (blk_alloc BK283.out _) 0).trans rfl, (blk_cell (blk_alloc BK283.out _) 1).trans rfl, (World.cell?_alloc_lt _ _ _ (World.block_lt_of_cell? _ _ (hHeld.2.2))).trans (hHeld.2.2)⟩ (fun hHeld => ?_)
   clear hK K
   refine norm_ (a' := ?_) ?_ ?_
   rotate_left
   · show Act.put _ (some 60) _ = _
     simp only [Nz]
     rfl
   refine one_ (i := 11) (N := some 61) #[Y,Y,Y,Y,Y,Y,Y,Y,Y,Y,Y,Y,Z,Z] rfl rfl (one_of HT_.out (by kernel_rfl)) (by decide) (fun K hK => ?_)
   refine Kd.R_append_step (Kd.int .i64) (w0 := w) w.heap.size (by rfl) (.tmp 57) (.tmp 60) 25 3 (.int .i64 0) 8 rfl Try.underlying25 info3 rfl (by decide) (by omega) (.slice A284_0 (rd_L5 x9_2 ((rd_T46 l0_1 x46_2).f0)).length c284_0) (rd_L5 x9_2 ((rd_T46 l0_1 x46_2).f0)) ((rd_T46 l0_1 x46_2).f1) [.int .i64 ((rd_T46 l0_1 x46_2).f1)] (fun k_ => oki43 k_ ∨ ((fun _ => True)) k_ ∧ w41.heap.size ≤ k_) (fun _ => False) rfl rfl ?aP (fun _ hk => hk.elim) ?aF ?aO ?aB ?aS ?aL ?_
   (case aP => exact rfl)
   (case aB => exact (by repeat (first | (with_reducible first | exact HB.out | apply below_alloc | apply pw_below_drewN | apply below_drew1 | refine below_set ?_ GE277.out | refine below_set ?_ GE283.out) | exact HB.out)))
   (case aF => exact (fun k_ hk => .inr ⟨trivial, hk⟩))
   (case aO => exact (by (with_reducible repeat (first | apply Kd.R_alloc | apply Kd.R_drewN | apply Kd.R_drew)); exact Kd.R_mono UU43.out (fun _ hk => .inl hk)))
   (case aS => exact (below_size (by repeat (first | (with_reducible first | exact HB.out | apply below_alloc | apply pw_below_drewN | apply below_drew1 | refine below_set ?_ GE277.out | refine below_set ?_ GE283.out) | exact HB.out))))
   (case aL => have := LMc31.out; omega)
   intro v286 w44 ho hb hg hat
   (first | have HS2_ := cell_grown hg (hHeld.2.2) (by first | (rw [add_block]; exact (fun e_ => ((HL284_0.out.1 _ e_.symm).2) rfl)) | (show some (Addr.add _ _).block ≠ _; rw [add_block]; exact (fun e_ => ((HL284_0.out.1 _ e_.symm).2) rfl)) | exact (fun e_ => ((HL284_0.out.1 _ e_.symm).2) rfl)) | have HS2_ := cell_grown hg (cell_unalloc (hHeld.2.2) (by first | (rw [add_block]; exact Kd.S_lt HO_9.out _ rfl) | (show (Addr.add _ _).block < _; rw [add_block]; exact Kd.S_lt HO_9.out _ rfl) | exact Kd.S_lt HO_9.out _ rfl)) (by first | (rw [add_block]; exact (fun e_ => ((HL284_0.out.1 _ e_.symm).2) rfl)) | (show some (Addr.add _ _).block ≠ _; rw [add_block]; exact (fun e_ => ((HL284_0.out.1 _ e_.symm).2) rfl)) | exact (fun e_ => ((HL284_0.out.1 _ e_.symm).2) rfl)))
   rw [← Ny285.out] at ho
   have n0_ := Aside0.mk (blk_grown (g := gb277) (o := .cells #[.int .i64 a0_0, .slice (some ad282) l0_1.length c0_1] 24 (0, 0)) (by (with_reducible repeat (first | refine blk_drewN ?_ _ | refine blk_drew ?_ | refine blk_alloc ?_ _)); exact BK277.out) hg (Kd.R_ne HL284_0.out BK277.out (by decide)))
   have n1_ := Aside0.mk (blk_grown (g := gb283) (o := .cells #[.int .i64 ((rd_T46 l0_1 x46_2).f0), .int .i64 ((rd_T46 l0_1 x46_2).f1)] 46 (0, 0)) (by (with_reducible repeat (first | refine blk_drewN ?_ _ | refine blk_drew ?_ | refine blk_alloc ?_ _)); exact BK283.out) hg (Kd.R_ne HL284_0.out BK283.out (by decide)))
   have n2_ := Aside0.mk (hb)
   have n3_ := Aside0.mk (Kd.H_grown (Kd.H_widen (by repeat (first | exact HH43.out | refine Kd.H_alloc ?_ _ | refine Kd.H_drewN ?_ _ | refine Kd.H_drew ?_))) hg (fun k_ e_ => .inl (UU43.out.1 k_ e_)))
   have n4_ := Aside0.mk (ho)
   clear BK277
   clear BK283
   clear HB
   clear HH43
   clear HO_9
   clear UU43
   clear HL284_0
   have BK277 := n0_
   have BK283 := n1_
   have HB := n2_
   have HH43 := n3_
   have HO287 := n4_
   clear n0_ n1_ n2_ n3_ n4_
   clear ho hb hg hat
   have p32 : 0 ≤ (((rd_T46 l0_1 x46_2).f0) : Int) := of_decide_eq_true (by first | (with_reducible assumption) | assumption)
   have q32 : (((rd_T46 l0_1 x46_2).f0) : Int) < ((x9_2.length : Int) : Int) := of_decide_eq_true (by first | (with_reducible assumption) | assumption)
   replace p32 := eq_true p32
   replace q32 := eq_true q32
   obtain ⟨Ao47, co47, eo47⟩ := Kd.R_slice HO287.out
   (first | subst eo47 | (injection eo47 with f1_ f2_ f3_; have f4_ := f1_.symm; have f5_ := f3_.symm; clear f1_ f2_ f3_; subst f4_; subst f5_))
   obtain ⟨_, _, hraw45, _, _, hcc45, _⟩ := Kd.H_raw HH43.out (of_decide_eq_true (by first | (with_reducible assumption) | assumption)) (by have h_ : (((rd_T46 l0_1 x46_2).f0) : Int) < ((x9_2.length : Int) : Int) := of_decide_eq_true (by first | (with_reducible assumption) | assumption); first | exact h_ | (have e_ := (HN43.out); omega) | simpa using h_)
   obtain ⟨_, hfr45⟩ := Kd.H_at HH43.out (of_decide_eq_true (by first | (with_reducible assumption) | assumption)) (by have h_ : (((rd_T46 l0_1 x46_2).f0) : Int) < ((x9_2.length : Int) : Int) := of_decide_eq_true (by first | (with_reducible assumption) | assumption); first | exact h_ | (have e_ := (HN43.out); omega) | simpa using h_)
   have hx45_0 := hcc45 0 _ rfl
   have hf45_0 := hfr45 0
   (try simp only [Nat.add_zero] at hx45_0 hf45_0)
   (try rw [show ((Kd.slice 3 (Kd.int .i64))).sz = 1 from rfl, Nat.mul_one] at hx45_0)
   (try rw [show ((Kd.slice 3 (Kd.int .i64))).sz = 1 from rfl, Nat.mul_one] at hf45_0)
   have HP45 := Kd.S_seg0 HH43.out (of_decide_eq_true (by first | (with_reducible assumption) | assumption)) (by have h_ : (((rd_T46 l0_1 x46_2).f0) : Int) < ((x9_2.length : Int) : Int) := of_decide_eq_true (by first | (with_reducible assumption) | assumption); first | exact h_ | (have e_ := (HN43.out); omega) | simpa using h_) (seg := [.slice Ao47 y285.length co47]) (j := 0) (show 1 ≤ 1 from by decide) (x' := y285) (Kd.M_row HO287.out) (fun _ hk => hk)
   (try simp only [show ((Kd.slice 3 (Kd.int .i64))).sz = 1 from rfl, Nat.mul_one, Nat.add_zero] at HP45)
   clear hcc45 hfr45
   have HNB277_go43 := Aside0.mk (show gb277 ≠ go43 from by have h_ := Kd.R_ne hraw45 BK277.out (by decide); intro e_; exact h_ (by rw [e_]; rfl))
   have HNB283_go43 := Aside0.mk (show gb283 ≠ go43 from by have h_ := Kd.R_ne hraw45 BK283.out (by decide); intro e_; exact h_ (by rw [e_]; rfl))
   have HS45 := HP45.1
   rw [← Ny288.out] at HS45
   have HQ45 := Aside0.mk HS45
   obtain ⟨_, hgg45⟩ := Kd.R_typed hraw45 go43 rfl
   have GG45_ := Aside0.mk hgg45
   clear HP45 HS45 hgg45
   refine hK.out _ _ ⟨(blk_cell BK283.out 0).trans rfl, (blk_cell BK283.out 1).trans rfl, HS2_⟩ (fun hHeld => ?_)
   clear hK K
   refine norm_ (a' := ?_) ?_ ?_
   rotate_left
   · show Act.put _ (some 61) _ = _
     simp only [Nz]
     rfl
   refine pX 12 (some 62) ?_ #[Y,Y,Y,Y,Y,Y,Y,Y,Y,Y,Y,Y,Y,Z] rfl rfl (any_of HT_.out (by kernel_rfl)) (fun _ _ _ h => h) (Or.inl ⟨by rfl, ?_⟩) ?_ ?_ ?_
   rotate_left
   · intro w'
     go_simp
     with_reducible rfl
   rotate_left
   · simp only [Nz]
     rfl
   refine last_ (i := 13) (N := none) #[Y,Y,Y,Y,Y,Y,Y,Y,Y,Y,Y,Y,Y,Y] rfl rfl (one_of HT_.out (by kernel_rfl)) (by decide) (fun K hK => ?_)
   refine skip_ (w1 := ?_) (by rfl) rfl ?_ ?_
   rotate_left
   · go_simp
     rfl
   refine hK.out _ _ ?_
   clear hK K
   refine done_ (done_of HT_.out (by kernel_rfl)) ?_
   try go_wp2
   have n0_ : Aside0 (Kd.S (Kd.slice 3 (Kd.int .i64)) 25 (w44.setCell ⟨go43, (((rd_T46 l0_1 x46_2).f0) : Int).toNat, none⟩ (.slice Ao47 y285.length co47)) w.heap.size (fun _ => True) (.slice (some ⟨go43, 0, none⟩) x9_2.length co42) y288) := ⟨by (with_reducible repeat (first | apply Kd.S_alloc | apply Kd.S_drewN | apply Kd.S_drew)); exact HQ45.out⟩
   have n1_ : Aside0 ((w44.setCell ⟨go43, (((rd_T46 l0_1 x46_2).f0) : Int).toNat, none⟩ (.slice Ao47 y285.length co47)).heap[gb277]? = some (.cells #[.int .i64 a0_0, .slice (some ad282) l0_1.length c0_1] 24 (0, 0))) := ⟨by (with_reducible repeat (first | refine blk_drewN ?_ _ | refine blk_drew ?_ | refine blk_alloc ?_ _)); refine blk_far ?_ HNB277_go43.out _; (with_reducible repeat (first | refine blk_drewN ?_ _ | refine blk_drew ?_ | refine blk_alloc ?_ _)); exact BK277.out⟩
   have n2_ : Aside0 ((w44.setCell ⟨go43, (((rd_T46 l0_1 x46_2).f0) : Int).toNat, none⟩ (.slice Ao47 y285.length co47)).heap[gb283]? = some (.cells #[.int .i64 ((rd_T46 l0_1 x46_2).f0), .int .i64 ((rd_T46 l0_1 x46_2).f1)] 46 (0, 0))) := ⟨by (with_reducible repeat (first | refine blk_drewN ?_ _ | refine blk_drew ?_ | refine blk_alloc ?_ _)); refine blk_far ?_ HNB283_go43.out _; (with_reducible repeat (first | refine blk_drewN ?_ _ | refine blk_drew ?_ | refine blk_alloc ?_ _)); exact BK283.out⟩
   have n3_ : Aside0 (Below w.heap.size w (w44.setCell ⟨go43, (((rd_T46 l0_1 x46_2).f0) : Int).toNat, none⟩ (.slice Ao47 y285.length co47))) := ⟨by repeat (first | (with_reducible first | exact HB.out | apply below_alloc | apply pw_below_drewN | apply below_drew1 | refine below_set ?_ GB43.out | refine below_set ?_ GE277.out | refine below_set ?_ GE283.out) | exact HB.out)⟩
   (try clear HO_9)
   (try clear BK277)
   (try clear BK283)
   (try clear HB)
   generalize (w44.setCell ⟨go43, (((rd_T46 l0_1 x46_2).f0) : Int).toNat, none⟩ (.slice Ao47 y285.length co47)) = w48 at n0_ n1_ n2_ n3_ ⊢
   have HO_9 := n0_
   have BK277 := n1_
   have BK283 := n2_
   have HB := n3_
   clear n0_ n1_ n2_ n3_
   have n0_ := Aside0.mk (Kd.S_drew HO_9.out)
   have n1_ := Aside0.mk (blk_drew BK277.out)
   have n2_ := Aside0.mk (blk_drew BK283.out)
   have n3_ := Aside0.mk (below_drew1 HB.out)
   clear HO_9
   clear BK277
   clear BK283
   clear HB
   have HO_9 := n0_
   have BK277 := n1_
   have BK283 := n2_
   have HB := n3_
   clear n0_ n1_ n2_ n3_
   have p289 : 0 ≤ (((rd_T46 l0_1 x46_2).f1) : Int) := of_decide_eq_true (by first | (with_reducible assumption) | assumption)
   have q289 : ((rd_T46 l0_1 x46_2).f1) < (y288.length : Int) := (by have h_ : (((rd_T46 l0_1 x46_2).f1) : Int) < ((x9_2.length : Int) : Int) := of_decide_eq_true (by first | (with_reducible assumption) | assumption); first | (have e_ := (Kd.S_reads' HO_9.out).1; omega) | simpa only [Ny288.out, List.length_set] using h_)
   have ql289 : ((((rd_T46 l0_1 x46_2).f1) : Int) < ((x9_2.length : Int) : Int)) = True := eq_true (of_decide_eq_true (by first | (with_reducible assumption) | assumption))
   obtain ⟨ad289, A289_0, c289_0, e289, hx289_0, hl289_0, hi289_0⟩ := at_L5 (Kd.S_reads' HO_9.out).2.2 ((rd_T46 l0_1 x46_2).f1) p289 q289
   obtain rfl : (⟨go43, 0, none⟩ : Addr) = ad289 := (by injection e289)
   obtain ⟨ce289, hce289, hMe289, hcc289⟩ := Kd.S_get HO_9.out [] ((rd_T46 l0_1 x46_2).f1) p289 (by first | exact q289 | exact of_decide_eq_true (by first | (with_reducible assumption) | assumption) | (have e_ := (Kd.S_reads' HO_9.out).1; omega))
   obtain ⟨ve289_0, rfl, ge289_0⟩ := hMe289
   have hv289_0 := hcc289 0 _ rfl
   rw [Nat.add_zero, show ((Kd.slice 3 (Kd.int .i64))).sz = 1 from rfl, Nat.mul_one] at hv289_0
   replace hv289_0 := Option.some.inj (hv289_0.symm.trans hx289_0)
   rw [hv289_0] at ge289_0
   have HL289_0 := Aside0.mk (show Kd.R (Kd.int .i64) 3 _ _ _ _ (rd_L5 y288 ((rd_T46 l0_1 x46_2).f1)) from ge289_0)
   clear hv289_0 ge289_0
   have HX289_0 := Aside0.mk hx289_0
   clear hcc289 hce289
   (first | simp only [add_plain] at hx289_0 | simp only [add_at] at hx289_0 | simp only [Addr.add, Nat.zero_add] at hx289_0 | skip)
   have HR289_0 := Aside0.mk hi289_0
   have HC289_0 := Aside0.mk hl289_0
   clear hi289_0 hl289_0
   replace p289 := eq_true p289
   replace q289 := eq_true q289
   obtain ⟨oki50, ce50, hcl50, hM50, hcc50, _, _, hH50⟩ := Kd.S_elem HO_9.out [] (((rd_T46 l0_1 x46_2).f1) : Int) (of_decide_eq_true (by first | (with_reducible assumption) | assumption)) (by have h_ : (((rd_T46 l0_1 x46_2).f1) : Int) < ((x9_2.length : Int) : Int) := of_decide_eq_true (by first | (with_reducible assumption) | assumption); first | exact h_ | (have e_ := (Kd.S_reads' HO_9.out).1; omega) | simpa using h_)
   obtain ⟨ve50_0, rfl, ge50_0⟩ := hM50
   have hv50 := hcc50 0 _ rfl
   have hX50 := HX289_0.out
   (try simp only [add_plain] at hX50)
   (try simp only [Nat.add_zero] at hv50)
   (try rw [show ((Kd.slice 3 (Kd.int .i64))).sz = 1 from rfl, Nat.mul_one] at hv50)
   replace hv50 := Option.some.inj (hv50.symm.trans hX50)
   subst hv50
   clear hX50 hcc50 hcl50
   have UU50 := Aside0.mk (show Kd.R (Kd.int .i64) 3 _ w.heap.size oki50 (.slice A289_0 (rd_L5 y288 ((rd_T46 l0_1 x46_2).f1)).length c289_0) (rd_L5 y288 ((rd_T46 l0_1 x46_2).f1)) from ge50_0)
   have HH50 := Aside0.mk hH50
   have HN50 := Aside0.mk (Kd.S_reads' HO_9.out).1
   clear hH50 ge50_0
   as_aux_lemma =>
   refine start_ (n := 14) (S := fun w' => w'.cell? ⟨gb283, 0, none⟩ = some (.int .i64 ((rd_T46 l0_1 x46_2).f0)) ∧ w'.cell? ⟨gb283, 1, none⟩ = some (.int .i64 ((rd_T46 l0_1 x46_2).f1)) ∧ w'.cell? ⟨go43, (((rd_T46 l0_1 x46_2).f1)).toNat, none⟩ = some (.slice A289_0 (rd_L5 y288 ((rd_T46 l0_1 x46_2).f1)).length c289_0)) (ds := [13]) #[Z,Z,Z,Z,Z,Z,Z,Z,Z,Z,Z,Z,Z,Z] (by kernel_rfl) rfl rfl ⟨(blk_cell BK283.out 0).trans rfl, (blk_cell BK283.out 1).trans rfl, hx289_0⟩ (fun hHeld => ?_); refine with_tabW walk_Route.tab8 walk_Route.bits8 (fun HT_ HW_ => ?_)
   generalize w48.drew = w49 at HO_9 BK277 BK283 HB HH50 HL289_0 HQ45 HR289_0 HX289_0 UU50 hx289_0 hHeld ⊢
   refine pX 0 (some 63) ?_ #[Y,Z,Z,Z,Z,Z,Z,Z,Z,Z,Z,Z,Z,Z] rfl rfl (any_of HT_.out (by kernel_rfl)) (fun _ _ _ h => h) (Or.inl ⟨by rfl, ?_⟩) ?_ ?_ ?_
   rotate_left
   · intro w'
     go_simp
     with_reducible rfl
   rotate_left
   · simp only [Nz]
     rfl
   refine pX 1 (some 64) ?_ #[Y,Y,Z,Z,Z,Z,Z,Z,Z,Z,Z,Z,Z,Z] rfl rfl (any_of HT_.out (by kernel_rfl)) (fun _ _ _ h => h) (Or.inl ⟨by rfl, ?_⟩) ?_ ?_ ?_
   rotate_left
   · intro w'
     go_simp
     with_reducible rfl
   rotate_left
   · simp only [Nz]
     rfl
   refine pX 3 (some 66) ?_ #[Y,Y,Z,Y,Z,Z,Z,Z,Z,Z,Z,Z,Z,Z] rfl rfl (any_of HT_.out (by kernel_rfl)) (fun _ _ _ h => h) (Or.inl ⟨by rfl, ?_⟩) ?_ ?_ ?_
   rotate_left
   · intro w'
     go_simp
     with_reducible rfl
   rotate_left
   · simp only [Nz]
     rfl
   refine pX 4 (some 67) ?_ #[Y,Y,Z,Y,Y,Z,Z,Z,Z,Z,Z,Z,Z,Z] rfl rfl (any_of HT_.out (by kernel_rfl)) (fun _ _ _ h => h) (Or.inl ⟨by rfl, ?_⟩) ?_ ?_ ?_
   rotate_left
   · intro w'
     go_simp
     with_reducible rfl
   rotate_left
   · simp only [Nz]
     rfl
   refine pX 8 (some 71) ?_ #[Y,Y,Z,Y,Y,Z,Z,Z,Y,Z,Z,Z,Z,Z] rfl rfl (any_of HT_.out (by kernel_rfl)) (fun _ _ _ h => h) (Or.inl ⟨by rfl, ?_⟩) ?_ ?_ ?_
   rotate_left
   · intro w'
     go_simp
     with_reducible rfl
   rotate_left
   · simp only [Nz]
     rfl
   refine tX 2 (some 65) ?_ #[Y,Y,Y,Y,Y,Z,Z,Z,Y,Z,Z,Z,Z,Z] rfl rfl (take_ofW HT_.out HW_.out (by kernel_rfl)) (fun _ _ _ h => h) (Or.inl ⟨by rfl, ?_⟩) hHeld ?_ ?_ ?_
   rotate_left
   · rintro w' ⟨s0, s1, s2⟩
     go_simp
     with_reducible rfl
   rotate_left
   · simp only [Nz]
     rfl
   refine tX 5 (some 68) ?_ #[Y,Y,Y,Y,Y,Y,Z,Z,Y,Z,Z,Z,Z,Z] rfl rfl (take_ofW HT_.out HW_.out (by kernel_rfl)) (fun _ _ _ h => h) (Or.inl ⟨by rfl, ?_⟩) hHeld ?_ ?_ ?_
   rotate_left
   · rintro w' ⟨s0, s1, s2⟩
     go_simp
     with_reducible rfl
   rotate_left
   · simp only [Nz]
     rfl
   refine pX 6 (some 69) ?_ #[Y,Y,Y,Y,Y,Y,Y,Z,Y,Z,Z,Z,Z,Z] rfl rfl (any_of HT_.out (by kernel_rfl)) (fun _ _ _ h => h) (Or.inl ⟨by rfl, ?_⟩) ?_ ?_ ?_
   rotate_left
   · intro w'
     go_simp
     with_reducible rfl
   rotate_left
   · simp only [Nz]
     rfl
   refine tX 7 (some 70) ?_ #[Y,Y,Y,Y,Y,Y,Y,Y,Y,Z,Z,Z,Z,Z] rfl rfl (take_ofW HT_.out HW_.out (by kernel_rfl)) (fun _ _ _ h => h) (Or.inl ⟨by rfl, ?_⟩) hHeld ?_ ?_ ?_
   rotate_left
   · rintro w' ⟨s0, s1, s2⟩
     go_simp
     with_reducible rfl
   rotate_left
   · simp only [Nz]
     rfl
   refine tX 9 (some 72) ?_ #[Y,Y,Y,Y,Y,Y,Y,Y,Y,Y,Z,Z,Z,Z] rfl rfl (take_ofW HT_.out HW_.out (by kernel_rfl)) (fun _ _ _ h => h) (Or.inl ⟨by rfl, ?_⟩) hHeld ?_ ?_ ?_
   rotate_left
   · rintro w' ⟨s0, s1, s2⟩
     go_simp
     with_reducible rfl
   rotate_left
   · simp only [Nz]
     rfl
   refine one_ (i := 10) (N := some 73) #[Y,Y,Y,Y,Y,Y,Y,Y,Y,Y,Y,Z,Z,Z] rfl rfl (one_of HT_.out (by kernel_rfl)) (by decide) (fun K hK => ?_)
   refine value_ (w1 := ?_) (v := ?_) (by rfl) rfl ?_ ?_
   rotate_left 2
   · go_simp
     constructor
     rotate_left
     · rfl
     rfl
   refine hK.out _ _ ⟨(blk_cell (blk_alloc BK283.out _) 0).trans rfl, (blk_cell (blk_alloc BK283.out _) 1).trans rfl, (World.cell?_alloc_lt _ _ _ (World.block_lt_of_cell? _ _ (hHeld.2.2))).trans (hHeld.2.2)⟩ (fun hHeld => ?_)
   clear hK K
   refine norm_ (a' := ?_) ?_ ?_
   rotate_left
   · show Act.put _ (some 73) _ = _
     simp only [Nz]
     rfl
   refine one_ (i := 11) (N := some 74) #[Y,Y,Y,Y,Y,Y,Y,Y,Y,Y,Y,Y,Z,Z] rfl rfl (one_of HT_.out (by kernel_rfl)) (by decide) (fun K hK => ?_)
   refine Kd.R_append_step (Kd.int .i64) (w0 := w) w.heap.size (by rfl) (.tmp 70) (.tmp 73) 25 3 (.int .i64 0) 8 rfl Try.underlying25 info3 rfl (by decide) (by omega) (.slice A289_0 (rd_L5 y288 ((rd_T46 l0_1 x46_2).f1)).length c289_0) (rd_L5 y288 ((rd_T46 l0_1 x46_2).f1)) ((rd_T46 l0_1 x46_2).f0) [.int .i64 ((rd_T46 l0_1 x46_2).f0)] (fun k_ => oki50 k_ ∨ ((fun _ => True)) k_ ∧ w49.heap.size ≤ k_) (fun _ => False) rfl rfl ?aP (fun _ hk => hk.elim) ?aF ?aO ?aB ?aS ?aL ?_
   (case aP => exact rfl)
   (case aB => exact (by repeat (first | (with_reducible first | exact HB.out | apply below_alloc | apply pw_below_drewN | apply below_drew1 | refine below_set ?_ GE277.out | refine below_set ?_ GE283.out) | exact HB.out)))
   (case aF => exact (fun k_ hk => .inr ⟨trivial, hk⟩))
   (case aO => exact (by (with_reducible repeat (first | apply Kd.R_alloc | apply Kd.R_drewN | apply Kd.R_drew)); exact Kd.R_mono UU50.out (fun _ hk => .inl hk)))
   (case aS => exact (below_size (by repeat (first | (with_reducible first | exact HB.out | apply below_alloc | apply pw_below_drewN | apply below_drew1 | refine below_set ?_ GE277.out | refine below_set ?_ GE283.out) | exact HB.out))))
   (case aL => have := LMc35.out; omega)
   intro v291 w51 ho hb hg hat
   (first | have HS2_ := cell_grown hg (hHeld.2.2) (by first | (rw [add_block]; exact (fun e_ => ((HL289_0.out.1 _ e_.symm).2) rfl)) | (show some (Addr.add _ _).block ≠ _; rw [add_block]; exact (fun e_ => ((HL289_0.out.1 _ e_.symm).2) rfl)) | exact (fun e_ => ((HL289_0.out.1 _ e_.symm).2) rfl)) | have HS2_ := cell_grown hg (cell_unalloc (hHeld.2.2) (by first | (rw [add_block]; exact Kd.S_lt HO_9.out _ rfl) | (show (Addr.add _ _).block < _; rw [add_block]; exact Kd.S_lt HO_9.out _ rfl) | exact Kd.S_lt HO_9.out _ rfl)) (by first | (rw [add_block]; exact (fun e_ => ((HL289_0.out.1 _ e_.symm).2) rfl)) | (show some (Addr.add _ _).block ≠ _; rw [add_block]; exact (fun e_ => ((HL289_0.out.1 _ e_.symm).2) rfl)) | exact (fun e_ => ((HL289_0.out.1 _ e_.symm).2) rfl)))
   rw [← Ny290.out] at ho
   have n0_ := Aside0.mk (blk_grown (g := gb277) (o := .cells #[.int .i64 a0_0, .slice (some ad282) l0_1.length c0_1] 24 (0, 0)) (by (with_reducible repeat (first | refine blk_drewN ?_ _ | refine blk_drew ?_ | refine blk_alloc ?_ _)); exact BK277.out) hg (Kd.R_ne HL289_0.out BK277.out (by decide)))
   have n1_ := Aside0.mk (blk_grown (g := gb283) (o := .cells #[.int .i64 ((rd_T46 l0_1 x46_2).f0), .int .i64 ((rd_T46 l0_1 x46_2).f1)] 46 (0, 0)) (by (with_reducible repeat (first | refine blk_drewN ?_ _ | refine blk_drew ?_ | refine blk_alloc ?_ _)); exact BK283.out) hg (Kd.R_ne HL289_0.out BK283.out (by decide)))
   have n2_ := Aside0.mk (hb)
   have n3_ := Aside0.mk (Kd.H_grown (Kd.H_widen (by repeat (first | exact HH50.out | refine Kd.H_alloc ?_ _ | refine Kd.H_drewN ?_ _ | refine Kd.H_drew ?_))) hg (fun k_ e_ => .inl (UU50.out.1 k_ e_)))
   have n4_ := Aside0.mk (ho)
   clear BK277
   clear BK283
   clear HB
   clear HH50
   clear HO_9
   clear UU50
   clear HL289_0
   have BK277 := n0_
   have BK283 := n1_
   have HB := n2_
   have HH50 := n3_
   have HO292 := n4_
   clear n0_ n1_ n2_ n3_ n4_
   clear ho hb hg hat
   have p36 : 0 ≤ (((rd_T46 l0_1 x46_2).f1) : Int) := of_decide_eq_true (by first | (with_reducible assumption) | assumption)
   have q36 : (((rd_T46 l0_1 x46_2).f1) : Int) < ((x9_2.length : Int) : Int) := of_decide_eq_true (by first | (with_reducible assumption) | assumption)
   replace p36 := eq_true p36
   replace q36 := eq_true q36
   obtain ⟨Ao54, co54, eo54⟩ := Kd.R_slice HO292.out
   (first | subst eo54 | (injection eo54 with f1_ f2_ f3_; have f4_ := f1_.symm; have f5_ := f3_.symm; clear f1_ f2_ f3_; subst f4_; subst f5_))
   obtain ⟨_, _, hraw52, _, _, hcc52, _⟩ := Kd.H_raw HH50.out (of_decide_eq_true (by first | (with_reducible assumption) | assumption)) (by have h_ : (((rd_T46 l0_1 x46_2).f1) : Int) < ((x9_2.length : Int) : Int) := of_decide_eq_true (by first | (with_reducible assumption) | assumption); first | exact h_ | (have e_ := (HN50.out); omega) | simpa using h_)
   obtain ⟨_, hfr52⟩ := Kd.H_at HH50.out (of_decide_eq_true (by first | (with_reducible assumption) | assumption)) (by have h_ : (((rd_T46 l0_1 x46_2).f1) : Int) < ((x9_2.length : Int) : Int) := of_decide_eq_true (by first | (with_reducible assumption) | assumption); first | exact h_ | (have e_ := (HN50.out); omega) | simpa using h_)
   have hx52_0 := hcc52 0 _ rfl
   have hf52_0 := hfr52 0
   (try simp only [Nat.add_zero] at hx52_0 hf52_0)
   (try rw [show ((Kd.slice 3 (Kd.int .i64))).sz = 1 from rfl, Nat.mul_one] at hx52_0)
   (try rw [show ((Kd.slice 3 (Kd.int .i64))).sz = 1 from rfl, Nat.mul_one] at hf52_0)
   have HP52 := Kd.S_seg0 HH50.out (of_decide_eq_true (by first | (with_reducible assumption) | assumption)) (by have h_ : (((rd_T46 l0_1 x46_2).f1) : Int) < ((x9_2.length : Int) : Int) := of_decide_eq_true (by first | (with_reducible assumption) | assumption); first | exact h_ | (have e_ := (HN50.out); omega) | simpa using h_) (seg := [.slice Ao54 y290.length co54]) (j := 0) (show 1 ≤ 1 from by decide) (x' := y290) (Kd.M_row HO292.out) (fun _ hk => hk)
   (try simp only [show ((Kd.slice 3 (Kd.int .i64))).sz = 1 from rfl, Nat.mul_one, Nat.add_zero] at HP52)
   clear hcc52 hfr52
   have HNB277_go43 := Aside0.mk (show gb277 ≠ go43 from by have h_ := Kd.R_ne hraw52 BK277.out (by decide); intro e_; exact h_ (by rw [e_]; rfl))
   have HNB283_go43 := Aside0.mk (show gb283 ≠ go43 from by have h_ := Kd.R_ne hraw52 BK283.out (by decide); intro e_; exact h_ (by rw [e_]; rfl))
   have HS52 := HP52.1
   rw [← Ny293.out] at HS52
   have HQ52 := Aside0.mk HS52
   obtain ⟨_, hgg52⟩ := Kd.R_typed hraw52 go43 rfl
   have GG52_ := Aside0.mk hgg52
   clear HP52 HS52 hgg52
   refine hK.out _ _ ⟨(blk_cell BK283.out 0).trans rfl, (blk_cell BK283.out 1).trans rfl, HS2_⟩ (fun hHeld => ?_)
   clear hK K
   refine norm_ (a' := ?_) ?_ ?_
   rotate_left
   · show Act.put _ (some 74) _ = _
     simp only [Nz]
     rfl
   refine pX 12 (some 75) ?_ #[Y,Y,Y,Y,Y,Y,Y,Y,Y,Y,Y,Y,Y,Z] rfl rfl (any_of HT_.out (by kernel_rfl)) (fun _ _ _ h => h) (Or.inl ⟨by rfl, ?_⟩) ?_ ?_ ?_
   rotate_left
   · intro w'
     go_simp
     with_reducible rfl
   rotate_left
   · simp only [Nz]
     rfl
   refine last_ (i := 13) (N := none) #[Y,Y,Y,Y,Y,Y,Y,Y,Y,Y,Y,Y,Y,Y] rfl rfl (one_of HT_.out (by kernel_rfl)) (by decide) (fun K hK => ?_)
   refine skip_ (w1 := ?_) (by rfl) rfl ?_ ?_
   rotate_left
   · go_simp
     rfl
   refine hK.out _ _ ?_
   clear hK K
   refine done_ (done_of HT_.out (by kernel_rfl)) ?_
   try go_wp2
   go_roundg k2
   case measure => have := HJ4.out; have := HK2.out; omega
   exact ⟨(y293), (wrap64 (x46_2 + 1)), (by first|rfl|(simp;done)|(simp [*];done)), H', ⟨by have := HJ4.out;have := HK2.out;omega⟩, ⟨by (with_reducible repeat (first|apply Kd.S_alloc|apply Kd.S_drewN|apply Kd.S_drew));exact HQ52.out⟩, ⟨by (with_reducible repeat (first|refine blk_drewN ?_ _|refine blk_drew ?_|refine blk_alloc ?_ _));refine blk_far ?_ HNB277_go43.out _;(with_reducible repeat (first|refine blk_drewN ?_ _|refine blk_drew ?_|refine blk_alloc ?_ _));exact BK277.out⟩, ⟨by repeat (first|(with_reducible first|exact HB.out|apply below_alloc|apply pw_below_drewN|apply below_drew1|refine below_set ?_ GB43.out|refine below_set ?_ GE277.out|refine below_set ?_ GE283.out)|exact HB.out)⟩⟩
 as_aux_lemma =>
 rw [if_neg c26] at H
 have c26b0 : decide (x46_2 < (l0_1.length : Int)) = false := decide_eq_false c26
 clear c26
 by_cases c55 : 0 ≤ a0_0
 rotate_left
 · rw [if_neg c55] at H
   exact absurd H (by simp)
 rw [if_pos c55] at H
 have c55b0 := eq_true c55
 have c55b1 : decide (0 ≤ a0_0) = true := decide_eq_true c55
 clear c55
 by_cases c56 : (a0_0 : Int).toNat ≤ 35184372088832
 rotate_left
 · rw [if_neg c56] at H
   exact absurd H (by simp)
 rw [if_pos c56] at H
 have c56b0 := eq_true c56
 have c56b1 : decide ((a0_0 : Int).toNat ≤ 35184372088832) = true := decide_eq_true c56
 clear c56
 obtain ⟨y294, hy294⟩ : ∃ y_ : List Int, y_ = (List.replicate (a0_0 : Int).toNat 0) := ⟨_, rfl⟩
 replace H : (walk_Route.l1 k2 a1 a2 x9_2 y294 l3 (l3.length : Int) 0 a0_0 l0_1) = some r := by first | (rw [hy294]; with_reducible exact H) | (have H2_ := (Option.bind_some _ _).symm.trans H; rw [hy294]; with_reducible exact H2_) | (have H2_ := (Option.bind_some _ _).symm.trans H; with_reducible exact H2_) | with_reducible exact H | (rw [hy294]; exact H) | exact H
 have Ny294 := Aside0.mk hy294
 clear hy294
 have H' := Aside0.mk H
 clear H
 have hcz57_0 : wr.cell? ⟨gb277, 0, none⟩ = some (.int .i64 a0_0) := (blk_cell BK277.out 0).trans rfl
 have hcz57_1 : wr.cell? ⟨gb277, 1, none⟩ = some (.slice A0_1 l0_1.length c0_1) := (blk_cell BK277.out 1).trans rfl
 have hfz57_0 := blk_frozen BK277.out 0
 have hfz57_1 := blk_frozen BK277.out 1
 go_wp2_with (first|((with_reducible refine gate_dst (N := 79) rfl ?_);(try (refine gate_guard (by rfl) ?_;dsimp only));refine Kd.R_make (Kd.int .i64) _ 3 rfl (N := 79) rfl 25 _ _ rfl a0_0 rfl rfl Try.underlying25 (.int .i64 0) 8 info3 rfl (by decide) (by omega) 0 (ok := fun _ => True) (okp := fun _ => True) rfl (fun _ hk => hk) trivial (of_decide_eq_true (by first|(with_reducible assumption)|assumption)) (Nat.le_trans (Nat.mul_le_mul_right _ (of_decide_eq_true (by first|(with_reducible assumption)|assumption) : a0_0.toNat ≤ 35184372088832)) (by omega)) (Below.refl _ _) (Nat.le_refl _) ?_;intro v295 w58 ho59 hb hg_ hnew_;clear hg_ hnew_;(first|rw [← Ny294.out] at ho59|(simp only [Int.reduceToNat] at ho59;rw [← Ny294.out] at ho59));have n0_ := Aside0.mk (Kd.S_elder' (by (with_reducible repeat (first|apply Kd.S_alloc|apply Kd.S_drewN|apply Kd.S_drew));exact HO_9.out) (Kd.R_base ho59) hb);have n1_ := Aside0.mk (Kd.R_lower ho59 (below_size (by repeat (first|(with_reducible first|exact HB.out|apply below_alloc|apply pw_below_drewN|apply below_drew1|refine below_set ?_ GE277.out)|exact HB.out))));have n2_ := Aside0.mk (blk_below (g := gb277) (o := .cells #[.int .i64 a0_0, .slice A0_1 l0_1.length c0_1] 24 (0, 0)) (by (with_reducible repeat (first|refine blk_drewN ?_ _|refine blk_drew ?_|refine blk_alloc ?_ _));exact BK277.out) hb);have n3_ := Aside0.mk (below_step (by repeat (first|(with_reducible first|exact HB.out|apply below_alloc|apply pw_below_drewN|apply below_drew1|refine below_set ?_ GE277.out)|exact HB.out)) hb);clear HO_9;clear BK277;clear HB;have HO_9 := n0_;have HO296 := n1_;have BK277 := n2_;have HB := n3_;clear n0_ n1_ n2_ n3_;clear hb ho59))
 go_loopg [82] k2 (fun kq v82 w' => ∃ (x12_3 : List Int) (x82_3 : Int), v82 = .int .i64 x82_3 ∧ Aside0 (walk_Route.l1 kq a1 a2 x9_2 x12_3 l3 (l3.length : Int) x82_3 a0_0 l0_1 = some r) ∧ Aside0 (kq ≤ k2) ∧ Aside0 (Kd.S (Kd.slice 3 (Kd.int .i64)) 25 w' w.heap.size (fun k_ => some k_ ≠ (v295 : Value).ownBlock) v280 x9_2) ∧ Aside0 (Kd.R (Kd.int .i64) 3 w' w.heap.size (fun _ => True) v295 x12_3) ∧ Aside0 (w'.heap[gb277]? = some (.cells #[.int .i64 a0_0, (.slice A0_1 l0_1.length c0_1)] 24 (0, 0))) ∧ Aside0 (Below w.heap.size w w'))
 case atStart => exact ⟨(y294), (0), (by first | rfl | (simp; done) | (simp [*]; done)), H', ⟨Nat.le_refl _⟩, ⟨by (with_reducible repeat (first | apply Kd.S_alloc | apply Kd.S_drewN | apply Kd.S_drew)); exact Kd.S_mono HO_9.out (fun _ hk => hk.2)⟩, ⟨by (with_reducible repeat (first | apply Kd.R_alloc | apply Kd.R_drewN | apply Kd.R_drew)); exact HO296.out⟩, ⟨by (with_reducible repeat (first | refine blk_drewN ?_ _ | refine blk_drew ?_ | refine blk_alloc ?_ _)); exact BK277.out⟩, ⟨by repeat (first | (with_reducible first | exact HB.out | apply below_alloc | apply pw_below_drewN | apply below_drew1 | refine below_set ?_ GE277.out) | exact HB.out)⟩⟩
 clear H'
 try clear c2
 try clear p2
 try clear q2
 try clear hx2
 try clear c3
 try clear p3
 try clear q3
 try clear c4
 try clear hx4
 try clear hf4
 try clear c5
 try clear hx5
 try clear hf5
 try clear p6
 try clear c26
 try clear c26b0
 try clear c27
 try clear c27b0
 try clear c28
 try clear c28b0
 try clear p28
 try clear q28
 try clear hx28
 try clear c29
 try clear c29b0
 try clear c30
 try clear c30b0
 try clear c31
 try clear p32
 try clear q32
 try clear c33
 try clear c33b0
 try clear c34
 try clear c34b0
 try clear c35
 try clear p36
 try clear q36
 try clear c38
 try clear c43
 try clear c45
 try clear hx45
 try clear hf45
 try clear c50
 try clear c52
 try clear hx52
 try clear hf52
 try clear c55
 try clear c55b0
 try clear c55b1
 try clear c56
 try clear c56b0
 try clear c56b1
 try clear hcz39_0
 try clear hcz39_1
 try clear hcz57_0
 try clear hcz57_1
 try clear hfz22_0
 try clear hfz22_1
 try clear hfz25_0
 try clear hfz25_1
 try clear hfz39_0
 try clear hfz39_1
 try clear hfz57_0
 try clear hfz57_1
 try clear hx282_0
 try clear hx282_1
 try clear hx284_0
 try clear hx289_0
 try clear hx45_0
 try clear hx52_0
 try clear p2
 try clear p282
 try clear p284
 try clear p289
 try clear p32
 try clear p36
 try clear q282
 try clear q284
 try clear q289
 try clear q32
 try clear q36
 obtain ⟨x12_3, x82_3, rfl, HA, HK3, HO_9, HO_12, BK277, HB⟩ := hrel
 rcases gk with _ | k3
 · exact absurd HA.out (by simp [walk_Route.l1])
 have H := HA.out
 clear HA
 simp only [walk_Route.l1] at H
 by_cases c60 : x82_3 < (l3.length : Int)
 · rw [if_pos c60] at H
   have c60b0 : decide (x82_3 < (l3.length : Int)) = true := decide_eq_true c60
   clear c60
   by_cases c61 : 0 ≤ x82_3
   rotate_left
   · rw [if_neg c61] at H
     exact absurd H (by simp)
   rw [if_pos c61] at H
   have c61b0 : decide (0 ≤ x82_3) = true := decide_eq_true c61
   clear c61
   by_cases c62 : x82_3 < (l3.length : Int)
   rotate_left
   · rw [if_neg c62] at H
     exact absurd H (by simp)
   rw [if_pos c62] at H
   have c62b0 : decide (x82_3 < (l3.length : Int)) = true := decide_eq_true c62
   clear c62
   by_cases c63 : (rd l3 x82_3) ≥ 0
   rotate_left
   · rw [if_neg c63] at H
     have c63b0 : decide (0 ≤ (rd l3 x82_3)) = false := decide_eq_false c63
     clear c63
     have H' := Aside0.mk H
     clear H
     have p297 : 0 ≤ (x82_3 : Int) := of_decide_eq_true (by first | (with_reducible assumption) | assumption)
     have q297 : x82_3 < (l3.length : Int) := of_decide_eq_true (by first | (with_reducible assumption) | assumption)
     obtain ⟨ad297, e297, hx297_0⟩ := Kd.at_int HR3.out x82_3 p297 q297
     cases e297
     replace hx297_0 := (HB.out.cell (World.block_lt_of_cell? w _ hx297_0)).trans hx297_0
     replace p297 := eq_true p297
     replace q297 := eq_true q297
     go_wp2
     go_roundg k3
     case measure => have := HJ4.out; have := HK2.out; have := HK3.out; omega
     exact ⟨(x12_3), (wrap64 (x82_3 + 1)), (by first|rfl|(simp;done)|(simp [*];done)), H', ⟨by have := HJ4.out;have := HK2.out;have := HK3.out;omega⟩, ⟨by (with_reducible repeat (first|apply Kd.S_alloc|apply Kd.S_drewN|apply Kd.S_drew));exact HO_9.out⟩, ⟨by (with_reducible repeat (first|apply Kd.R_alloc|apply Kd.R_drewN|apply Kd.R_drew));exact HO_12.out⟩, ⟨by (with_reducible repeat (first|refine blk_drewN ?_ _|refine blk_drew ?_|refine blk_alloc ?_ _));exact BK277.out⟩, ⟨by repeat (first|(with_reducible first|exact HB.out|apply below_alloc|apply pw_below_drewN|apply below_drew1|refine below_set ?_ GE277.out)|exact HB.out)⟩⟩
   rw [if_pos c63] at H
   have c63b0 : decide (0 ≤ (rd l3 x82_3)) = true := decide_eq_true c63
   clear c63
   by_cases c64 : (rd l3 x82_3) < a0_0
   rotate_left
   · rw [if_neg c64] at H
     have c64b0 : decide ((rd l3 x82_3) < a0_0) = false := decide_eq_false c64
     clear c64
     have H' := Aside0.mk H
     clear H
     have p297 : 0 ≤ (x82_3 : Int) := of_decide_eq_true (by first | (with_reducible assumption) | assumption)
     have q297 : x82_3 < (l3.length : Int) := of_decide_eq_true (by first | (with_reducible assumption) | assumption)
     obtain ⟨ad297, e297, hx297_0⟩ := Kd.at_int HR3.out x82_3 p297 q297
     cases e297
     replace hx297_0 := (HB.out.cell (World.block_lt_of_cell? w _ hx297_0)).trans hx297_0
     replace p297 := eq_true p297
     replace q297 := eq_true q297
     have hcz71_0 : wr.cell? ⟨gb277, 0, none⟩ = some (.int .i64 a0_0) := (blk_cell BK277.out 0).trans rfl
     have hcz71_1 : wr.cell? ⟨gb277, 1, none⟩ = some (.slice A0_1 l0_1.length c0_1) := (blk_cell BK277.out 1).trans rfl
     have hfz71_0 := blk_frozen BK277.out 0
     have hfz71_1 := blk_frozen BK277.out 1
     go_wp2
     go_roundg k3
     case measure => have := HJ4.out; have := HK2.out; have := HK3.out; omega
     exact ⟨(x12_3), (wrap64 (x82_3 + 1)), (by first|rfl|(simp;done)|(simp [*];done)), H', ⟨by have := HJ4.out;have := HK2.out;have := HK3.out;omega⟩, ⟨by (with_reducible repeat (first|apply Kd.S_alloc|apply Kd.S_drewN|apply Kd.S_drew));exact HO_9.out⟩, ⟨by (with_reducible repeat (first|apply Kd.R_alloc|apply Kd.R_drewN|apply Kd.R_drew));exact HO_12.out⟩, ⟨by (with_reducible repeat (first|refine blk_drewN ?_ _|refine blk_drew ?_|refine blk_alloc ?_ _));exact BK277.out⟩, ⟨by repeat (first|(with_reducible first|exact HB.out|apply below_alloc|apply pw_below_drewN|apply below_drew1|refine below_set ?_ GE277.out)|exact HB.out)⟩⟩
   rw [if_pos c64] at H
   have c64b0 : decide ((rd l3 x82_3) < a0_0) = true := decide_eq_true c64
   clear c64
   by_cases c65 : 0 ≤ (rd l3 x82_3)
   rotate_left
   · rw [if_neg c65] at H
     exact absurd H (by simp)
   rw [if_pos c65] at H
   have c65b0 : decide (0 ≤ (rd l3 x82_3)) = true := decide_eq_true c65
   clear c65
   by_cases c66 : (rd l3 x82_3) < (x12_3.length : Int)
   rotate_left
   · rw [if_neg c66] at H
     exact absurd H (by simp)
   rw [if_pos c66] at H
   have c66b0 : decide ((rd l3 x82_3) < (x12_3.length : Int)) = true := decide_eq_true c66
   clear c66
   obtain ⟨y298, hy298⟩ : ∃ y_ : List Int, y_ = (x12_3.set ((rd l3 x82_3) : Int).toNat (-1)) := ⟨_, rfl⟩
   replace H : (walk_Route.l1 k3 a1 a2 x9_2 y298 l3 (l3.length : Int) (wrap64 (x82_3 + 1)) a0_0 l0_1) = some r := by first | (rw [hy298]; with_reducible exact H) | (have H2_ := (Option.bind_some _ _).symm.trans H; rw [hy298]; with_reducible exact H2_) | (have H2_ := (Option.bind_some _ _).symm.trans H; with_reducible exact H2_) | with_reducible exact H | (rw [hy298]; exact H) | exact H
   have Ny298 := Aside0.mk hy298
   clear hy298
   have H' := Aside0.mk H
   clear H
   have p297 : 0 ≤ (x82_3 : Int) := of_decide_eq_true (by first | (with_reducible assumption) | assumption)
   have q297 : x82_3 < (l3.length : Int) := of_decide_eq_true (by first | (with_reducible assumption) | assumption)
   obtain ⟨ad297, e297, hx297_0⟩ := Kd.at_int HR3.out x82_3 p297 q297
   cases e297
   replace hx297_0 := (HB.out.cell (World.block_lt_of_cell? w _ hx297_0)).trans hx297_0
   replace p297 := eq_true p297
   replace q297 := eq_true q297
   have hcz68_0 : wr.cell? ⟨gb277, 0, none⟩ = some (.int .i64 a0_0) := (blk_cell BK277.out 0).trans rfl
   have hcz68_1 : wr.cell? ⟨gb277, 1, none⟩ = some (.slice A0_1 l0_1.length c0_1) := (blk_cell BK277.out 1).trans rfl
   have hfz68_0 := blk_frozen BK277.out 0
   have hfz68_1 := blk_frozen BK277.out 1
   have p67 : 0 ≤ ((rd l3 x82_3) : Int) := of_decide_eq_true (by first | (with_reducible assumption) | assumption)
   have q67 : ((rd l3 x82_3) : Int) < ((x12_3.length : Int) : Int) := of_decide_eq_true (by first | (with_reducible assumption) | assumption)
   obtain ⟨go67, co67, eo67, gb67, gl67, cl67, HG67⟩ := Kd.R_form HO_12.out (by omega)
   (first | cases eo67 | (injection eo67 with ea_ en_ ec_; (first | subst ea_ | (injection ea_ with ea_; subst ea_)); subst ec_; clear en_))
   have GB67 := Aside0.mk gb67
   have GG67 := Aside0.mk HG67
   clear gb67 gl67 HG67
   obtain ⟨hx67_0, hf67_0⟩ := Kd.R_celln 0 HO_12.out ((rd l3 x82_3) : Int) p67 q67
   replace p67 := eq_true p67
   replace q67 := eq_true q67
   have HP69 := Kd.R_putg HO_12.out ((rd l3 x82_3) : Int) (-1)
   go_wp2_with (first|((with_reducible refine gate_store (t := 3) (p := 96) rfl ?_);refine store_event (t := 3) (p := 96) (v := ?vo_w70) (w1 := (wr.setCell ⟨go67, ((rd l3 x82_3) : Int).toNat, none⟩ (.int .i64 (-1)))) ?hg ?ho ?hn ?hr ?_;(case ho => rfl);(case hg => rfl);(case hn => rfl);(case hr => first|(go_simp;done)|(go_simp;rfl));intro w70 hw;have hg : wr.grownBy w70 (some go67) := (by rw [hw];exact HP69.2);have hp_ : Kd.R (Kd.int .i64) 3 w70 w.heap.size (fun _ => True) (.slice (some ⟨go67, 0, none⟩) x12_3.length co67) y298 := (by rw [hw, Ny298.out];exact HP69.1);clear HP69;have n0_ := Aside0.mk (Kd.S_after (v := (.slice (some ⟨go67, 0, none⟩) x12_3.length co67)) (v1 := (.slice (some ⟨go67, 0, none⟩) x12_3.length co67)) (ok := (fun _ => True)) (by (with_reducible repeat (first|apply Kd.S_alloc|apply Kd.S_drewN|apply Kd.S_drew));exact Kd.S_mono HO_9.out (fun _ hk => ⟨trivial, hk⟩)) hg (.inl rfl));have n1_ := Aside0.mk (hp_);have n2_ := Aside0.mk (blk_grown (g := gb277) (o := .cells #[.int .i64 a0_0, .slice A0_1 l0_1.length c0_1] 24 (0, 0)) (by (with_reducible repeat (first|refine blk_drewN ?_ _|refine blk_drew ?_|refine blk_alloc ?_ _));exact BK277.out) hg (Kd.R_ne HO_12.out BK277.out (by decide)));have n3_ := Aside0.mk ((by rw [hw];exact below_set (HB.out) GB67.out : Below w.heap.size w w70));clear HO_9;clear HO_12;clear BK277;clear HB;have HO_9 := n0_;have HO_12 := n1_;have BK277 := n2_;have HB := n3_;clear n0_ n1_ n2_ n3_;clear hg hw hp_))
   go_roundg k3
   case measure => have := HJ4.out; have := HK2.out; have := HK3.out; omega
   exact ⟨(y298), (wrap64 (x82_3 + 1)), (by first|rfl|(simp;done)|(simp [*];done)), H', ⟨by have := HJ4.out;have := HK2.out;have := HK3.out;omega⟩, ⟨by (with_reducible repeat (first|apply Kd.S_alloc|apply Kd.S_drewN|apply Kd.S_drew));exact Kd.S_mono HO_9.out (fun _ hk => hk.2)⟩, ⟨by (with_reducible repeat (first|apply Kd.R_alloc|apply Kd.R_drewN|apply Kd.R_drew));exact HO_12.out⟩, ⟨by (with_reducible repeat (first|refine blk_drewN ?_ _|refine blk_drew ?_|refine blk_alloc ?_ _));exact BK277.out⟩, ⟨by repeat (first|(with_reducible first|exact HB.out|apply below_alloc|apply pw_below_drewN|apply below_drew1|refine below_set ?_ GE277.out)|exact HB.out)⟩⟩
 rw [if_neg c60] at H
 have c60b0 : decide (x82_3 < (l3.length : Int)) = false := decide_eq_false c60
 clear c60
 have HC72 := Aside0.mk H
 clear H
 go_upto_region 17 with (fail)
 go_cut [109] (fun v109 wc => ∃ (kq : Nat) (x109_71 : Bool), v109 = .bool x109_71 ∧ Aside0 (walk_Route.j3 kq a1 a2 x9_2 x12_3 x109_71 = some r) ∧ Aside0 (kq ≤ k3) ∧ Aside0 (Kd.S (Kd.slice 3 (Kd.int .i64)) 25 wc w.heap.size (fun k_ => some k_ ≠ (v295 : Value).ownBlock) v280 x9_2) ∧ Aside0 (Kd.R (Kd.int .i64) 3 wc w.heap.size (fun _ => True) v295 x12_3) ∧ Aside0 (wc.heap[gb277]? = some (.cells #[.int .i64 a0_0, (.slice A0_1 l0_1.length c0_1)] 24 (0, 0))) ∧ Aside0 (Below w.heap.size w wc))
 case first =>
  have H := HC72.out
  clear HC72
  by_cases c73 : 0 ≤ a1
  rotate_left
  · rw [if_neg c73] at H
    exact absurd H (by simp)
  rw [if_pos c73] at H
  have c73b0 : decide (0 ≤ a1) = true := decide_eq_true c73
  clear c73
  (first | rw [c73b0] | (simp only [i64_w, i32_w]; rw [c73b0]) | skip)
  by_cases c74 : a1 < (x12_3.length : Int)
  rotate_left
  · rw [if_neg c74] at H
    exact absurd H (by simp)
  rw [if_pos c74] at H
  have c74b0 : decide (a1 < (x12_3.length : Int)) = true := decide_eq_true c74
  clear c74
  by_cases c75 : (rd x12_3 a1) < 0
  · rw [if_pos c75] at H
    have c75b0 : decide ((rd x12_3 a1) < 0) = true := decide_eq_true c75
    clear c75
    have H' := Aside0.mk H
    clear H
    obtain ⟨Ao76, co76, eo76⟩ := Kd.R_slice HO_12.out
    subst eo76
    have p299 : 0 ≤ (a1 : Int) := of_decide_eq_true (by first | (with_reducible assumption) | assumption)
    have q299 : a1 < (x12_3.length : Int) := of_decide_eq_true (by first | (with_reducible assumption) | assumption)
    obtain ⟨ad299, e299, hx299_0⟩ := Kd.at_int (Kd.R_reads' HO_12.out).2.2 a1 p299 q299
    cases e299
    replace p299 := eq_true p299
    replace q299 := eq_true q299
    go_wp2
    go_meet
    exact ⟨_, (true), (by first|rfl|(simp;done)|(simp [*];done)), H', ⟨by have := HJ4.out;have := HK2.out;have := HK3.out;first|omega|exact Nat.le_refl _⟩, ⟨by (with_reducible repeat (first|apply Kd.S_alloc|apply Kd.S_drewN|apply Kd.S_drew));exact HO_9.out⟩, ⟨by (with_reducible repeat (first|apply Kd.R_alloc|apply Kd.R_drewN|apply Kd.R_drew));exact HO_12.out⟩, ⟨by (with_reducible repeat (first|refine blk_drewN ?_ _|refine blk_drew ?_|refine blk_alloc ?_ _));exact BK277.out⟩, ⟨by repeat (first|(with_reducible first|exact HB.out|apply below_alloc|apply pw_below_drewN|apply below_drew1|refine below_set ?_ GE277.out)|exact HB.out)⟩⟩
  rw [if_neg c75] at H
  have c75b0 : decide ((rd x12_3 a1) < 0) = false := decide_eq_false c75
  clear c75
  by_cases c77 : 0 ≤ a2
  rotate_left
  · rw [if_neg c77] at H
    exact absurd H (by simp)
  rw [if_pos c77] at H
  have c77b0 : decide (0 ≤ a2) = true := decide_eq_true c77
  clear c77
  by_cases c78 : a2 < (x12_3.length : Int)
  rotate_left
  · rw [if_neg c78] at H
    exact absurd H (by simp)
  rw [if_pos c78] at H
  have c78b0 : decide (a2 < (x12_3.length : Int)) = true := decide_eq_true c78
  clear c78
  have H' := Aside0.mk H
  clear H
  obtain ⟨Ao79, co79, eo79⟩ := Kd.R_slice HO_12.out
  subst eo79
  have p299 : 0 ≤ (a1 : Int) := of_decide_eq_true (by first | (with_reducible assumption) | assumption)
  have q299 : a1 < (x12_3.length : Int) := of_decide_eq_true (by first | (with_reducible assumption) | assumption)
  obtain ⟨ad299, e299, hx299_0⟩ := Kd.at_int (Kd.R_reads' HO_12.out).2.2 a1 p299 q299
  cases e299
  replace p299 := eq_true p299
  replace q299 := eq_true q299
  have p300 : 0 ≤ (a2 : Int) := of_decide_eq_true (by first | (with_reducible assumption) | assumption)
  have q300 : a2 < (x12_3.length : Int) := of_decide_eq_true (by first | (with_reducible assumption) | assumption)
  obtain ⟨ad300, e300, hx300_0⟩ := Kd.at_int (Kd.R_reads' HO_12.out).2.2 a2 p300 q300
  obtain rfl : ad299 = ad300 := (by injection e300)
  replace p300 := eq_true p300
  replace q300 := eq_true q300
  go_wp2
  go_meet
  exact ⟨_, (decide ((rd x12_3 a2) < 0)), (by first|rfl|(simp;done)|(simp [*];done)), H', ⟨by have := HJ4.out;have := HK2.out;have := HK3.out;first|omega|exact Nat.le_refl _⟩, ⟨by (with_reducible repeat (first|apply Kd.S_alloc|apply Kd.S_drewN|apply Kd.S_drew));exact HO_9.out⟩, ⟨by (with_reducible repeat (first|apply Kd.R_alloc|apply Kd.R_drewN|apply Kd.R_drew));exact HO_12.out⟩, ⟨by (with_reducible repeat (first|refine blk_drewN ?_ _|refine blk_drew ?_|refine blk_alloc ?_ _));exact BK277.out⟩, ⟨by repeat (first|(with_reducible first|exact HB.out|apply below_alloc|apply pw_below_drewN|apply below_drew1|refine below_set ?_ GE277.out)|exact HB.out)⟩⟩
 clear HC72
 try clear c2
 try clear p2
 try clear q2
 try clear hx2
 try clear c3
 try clear p3
 try clear q3
 try clear hx3
 try clear c4
 try clear hx4
 try clear hf4
 try clear c5
 try clear hx5
 try clear hf5
 try clear c6
 try clear p6
 try clear q6
 try clear hx6
 try clear hf6
 try clear c7
 try clear c26
 try clear c26b0
 try clear c27
 try clear c27b0
 try clear c28
 try clear c28b0
 try clear p28
 try clear q28
 try clear hx28
 try clear c29
 try clear c29b0
 try clear p29
 try clear q29
 try clear hx29
 try clear c30
 try clear c30b0
 try clear p30
 try clear q30
 try clear hx30
 try clear c31
 try clear p32
 try clear q32
 try clear c33
 try clear c33b0
 try clear c34
 try clear c34b0
 try clear c35
 try clear p36
 try clear q36
 try clear c38
 try clear c43
 try clear c45
 try clear hx45
 try clear hf45
 try clear c50
 try clear c52
 try clear hx52
 try clear hf52
 try clear c55
 try clear c55b0
 try clear c55b1
 try clear c56
 try clear c56b0
 try clear c56b1
 try clear c60
 try clear c60b0
 try clear c61
 try clear c61b0
 try clear c62
 try clear c62b0
 try clear c63
 try clear c63b0
 try clear c64
 try clear c64b0
 try clear p64
 try clear c65
 try clear c65b0
 try clear c66
 try clear c66b0
 try clear p67
 try clear q67
 try clear hx67
 try clear hf67
 try clear c73
 try clear c73b0
 try clear c74
 try clear c74b0
 try clear c75
 try clear c75b0
 try clear c77
 try clear c77b0
 try clear c78
 try clear c78b0
 try clear hcz39_0
 try clear hcz39_1
 try clear hcz57_0
 try clear hcz57_1
 try clear hcz68_0
 try clear hcz68_1
 try clear hcz71_0
 try clear hcz71_1
 try clear hfz22_0
 try clear hfz22_1
 try clear hfz25_0
 try clear hfz25_1
 try clear hfz39_0
 try clear hfz39_1
 try clear hfz57_0
 try clear hfz57_1
 try clear hfz68_0
 try clear hfz68_1
 try clear hfz71_0
 try clear hfz71_1
 try clear hx282_0
 try clear hx282_1
 try clear hx284_0
 try clear hx289_0
 try clear hx297_0
 try clear hx299_0
 try clear hx300_0
 try clear hx45_0
 try clear hx52_0
 try clear hx67_0
 try clear p2
 try clear p28
 try clear p282
 try clear p284
 try clear p289
 try clear p297
 try clear p299
 try clear p3
 try clear p300
 try clear p32
 try clear p36
 try clear p6
 try clear p67
 try clear q2
 try clear q28
 try clear q282
 try clear q284
 try clear q289
 try clear q297
 try clear q299
 try clear q3
 try clear q300
 try clear q32
 try clear q36
 try clear q67
 obtain ⟨kq, x109_71, rfl, HA, HJ71, HO_9, HO_12, BK277, HB⟩ := hcut
 rcases kq with _ | kj71
 · exact absurd HA.out (by simp [walk_Route.j3])
 have H := HA.out
 clear HA
 simp only [walk_Route.j3] at H
 by_cases c80 : x109_71 = true
 · subst c80
   have H1 : (some ([] : List Int)) = some r := by rw [if_pos rfl] at H; exact H
   clear H
   have H := H1
   clear H1
   obtain rfl := Option.some.inj H
   go_wp2
   go_ret
   exact ⟨_, by first|rfl|(simp [errW_none, errW_some] <;> rfl)|(simp [*, errW_none, errW_some] <;> rfl), by first|exact Kd.R_nil _ _ _ _ _|exact Kd.N_nil _ _ _ _ _|exact Kd.V_nil _ _ _ _ _|exact Kd.Q_nil _ _ _ _ _|exact Kd.S_nil _ _ _ _ _, by repeat (first|(with_reducible first|exact HB.out|apply below_alloc|apply pw_below_drewN|apply below_drew1|refine below_set ?_ GE277.out)|exact HB.out)⟩
 replace c80 := Bool.eq_false_iff.mpr c80
 subst c80
 have H1 : (if 0 ≤ a2 then (if a2 < (x12_3.length : Int) then (walk_Route.l2 kj71 a1 a2 x9_2 (x12_3.set (a2 : Int).toNat 1) (([a2] : List Int))) else (none)) else (none)) = some r := by rw [if_neg (show ¬ (false = true) by decide)] at H; exact H
 clear H
 have H := H1
 clear H1
 by_cases c81 : 0 ≤ a2
 rotate_left
 · rw [if_neg c81] at H
   exact absurd H (by simp)
 rw [if_pos c81] at H
 have c81b0 : decide (0 ≤ a2) = true := decide_eq_true c81
 clear c81
 by_cases c82 : a2 < (x12_3.length : Int)
 rotate_left
 · rw [if_neg c82] at H
   exact absurd H (by simp)
 rw [if_pos c82] at H
 have c82b0 : decide (a2 < (x12_3.length : Int)) = true := decide_eq_true c82
 clear c82
 obtain ⟨y301, hy301⟩ : ∃ y_ : List Int, y_ = (x12_3.set (a2 : Int).toNat 1) := ⟨_, rfl⟩
 replace H : (walk_Route.l2 kj71 a1 a2 x9_2 y301 (([a2] : List Int))) = some r := by first | (rw [hy301]; with_reducible exact H) | (have H2_ := (Option.bind_some _ _).symm.trans H; rw [hy301]; with_reducible exact H2_) | (have H2_ := (Option.bind_some _ _).symm.trans H; with_reducible exact H2_) | with_reducible exact H | (rw [hy301]; exact H) | exact H
 have Ny301 := Aside0.mk hy301
 clear hy301
 obtain ⟨y302, hy302⟩ : ∃ y_ : List Int, y_ = (([a2] : List Int)) := ⟨_, rfl⟩
 replace H : (walk_Route.l2 kj71 a1 a2 x9_2 y301 y302) = some r := by first | (rw [hy302]; with_reducible exact H) | (have H2_ := (Option.bind_some _ _).symm.trans H; rw [hy302]; with_reducible exact H2_) | (have H2_ := (Option.bind_some _ _).symm.trans H; with_reducible exact H2_) | with_reducible exact H | (rw [hy302]; exact H) | exact H
 have Ny302 := Aside0.mk hy302
 clear hy302
 have H' := Aside0.mk H
 clear H
 have p83 : 0 ≤ (a2 : Int) := of_decide_eq_true (by first | (with_reducible assumption) | assumption)
 have q83 : (a2 : Int) < ((x12_3.length : Int) : Int) := of_decide_eq_true (by first | (with_reducible assumption) | assumption)
 obtain ⟨go83, co83, eo83, gb83, gl83, cl83, HG83⟩ := Kd.R_form HO_12.out (by omega)
 (first | cases eo83 | (injection eo83 with ea_ en_ ec_; (first | subst ea_ | (injection ea_ with ea_; subst ea_)); subst ec_; clear en_))
 have GB83 := Aside0.mk gb83
 have GG83 := Aside0.mk HG83
 clear gb83 gl83 HG83
 obtain ⟨hx83_0, hf83_0⟩ := Kd.R_celln 0 HO_12.out (a2 : Int) p83 q83
 replace p83 := eq_true p83
 replace q83 := eq_true q83
 have HP84 := Kd.R_putg HO_12.out (a2 : Int) 1
 go_wp2_with (first|((with_reducible refine gate_store (t := 3) (p := 112) rfl ?_);refine store_event (t := 3) (p := 112) (v := ?vo_w85) (w1 := (wc.setCell ⟨go83, (a2 : Int).toNat, none⟩ (.int .i64 1))) ?hg ?ho ?hn ?hr ?_;(case ho => rfl);(case hg => rfl);(case hn => rfl);(case hr => first|(go_simp;done)|(go_simp;rfl));intro w85 hw;have hg : wc.grownBy w85 (some go83) := (by rw [hw];exact HP84.2);have hp_ : Kd.R (Kd.int .i64) 3 w85 w.heap.size (fun _ => True) (.slice (some ⟨go83, 0, none⟩) x12_3.length co83) y301 := (by rw [hw, Ny301.out];exact HP84.1);clear HP84;have n0_ := Aside0.mk (Kd.S_after (v := (.slice (some ⟨go83, 0, none⟩) x12_3.length co83)) (v1 := (.slice (some ⟨go83, 0, none⟩) x12_3.length co83)) (ok := (fun _ => True)) (by (with_reducible repeat (first|apply Kd.S_alloc|apply Kd.S_drewN|apply Kd.S_drew));exact Kd.S_mono HO_9.out (fun _ hk => ⟨trivial, hk⟩)) hg (.inl rfl));have n1_ := Aside0.mk (hp_);have n2_ := Aside0.mk (blk_grown (g := gb277) (o := .cells #[.int .i64 a0_0, .slice A0_1 l0_1.length c0_1] 24 (0, 0)) (by (with_reducible repeat (first|refine blk_drewN ?_ _|refine blk_drew ?_|refine blk_alloc ?_ _));exact BK277.out) hg (Kd.R_ne HO_12.out BK277.out (by decide)));have n3_ := Aside0.mk ((by rw [hw];exact below_set (HB.out) GB83.out : Below w.heap.size w w85));clear HO_9;clear HO_12;clear BK277;clear HB;have HO_9 := n0_;have HO_12 := n1_;have BK277 := n2_;have HB := n3_;clear n0_ n1_ n2_ n3_;clear hg hw hp_)|((with_reducible refine gate_dst (N := 114) rfl ?_);(try (refine gate_guard (by rfl) ?_;dsimp only));refine Kd.R_lit (Kd.int .i64) _ 3 ?hg (N := 114) ?hd (xs := ([a2] : List Int)) (inner := [.int .i64 a2]) (ok := fun _ => True) (okp := fun _ => True) ?hr ?hp (fun _ hk => hk) trivial (Below.refl _ _) (Nat.le_refl _) (by simp) ?_;(case hd => rfl);(case hg => rfl);(case hr => first|(go_simp;done)|(go_simp;rfl));(case hp => exact (Reps.one (show Kd.M (Kd.int .i64) _ _ _ a2 [.int .i64 a2] from rfl) (Reps.none _ _)));intro v303 w86 ho87 hb hg_ hnew_;clear hg_ hnew_;(first|rw [← Ny302.out] at ho87|(simp only [Int.reduceToNat] at ho87;rw [← Ny302.out] at ho87));have n0_ := Aside0.mk (Kd.S_elder' (by (with_reducible repeat (first|apply Kd.S_alloc|apply Kd.S_drewN|apply Kd.S_drew));exact HO_9.out) (Kd.R_base ho87) hb);have n1_ := Aside0.mk (Kd.R_elder' (by (with_reducible repeat (first|apply Kd.R_alloc|apply Kd.R_drewN|apply Kd.R_drew));exact HO_12.out) (Kd.R_base ho87) hb);have n2_ := Aside0.mk (Kd.R_lower (Kd.R_new' ho87 (Kd.R_lt (by (with_reducible repeat (first|apply Kd.R_alloc|apply Kd.R_drewN|apply Kd.R_drew));exact HO_12.out))) (below_size (by repeat (first|(with_reducible first|exact HB.out|apply below_alloc|apply pw_below_drewN|apply below_drew1|refine below_set ?_ GE277.out)|exact HB.out))));have n3_ := Aside0.mk (blk_below (g := gb277) (o := .cells #[.int .i64 a0_0, .slice A0_1 l0_1.length c0_1] 24 (0, 0)) (by (with_reducible repeat (first|refine blk_drewN ?_ _|refine blk_drew ?_|refine blk_alloc ?_ _));exact BK277.out) hb);have n4_ := Aside0.mk (below_step (by repeat (first|(with_reducible first|exact HB.out|apply below_alloc|apply pw_below_drewN|apply below_drew1|refine below_set ?_ GE277.out)|exact HB.out)) hb);clear HO_9;clear HO_12;clear BK277;clear HB;have HO_9 := n0_;have HO_12 := n1_;have HO304 := n2_;have BK277 := n3_;have HB := n4_;clear n0_ n1_ n2_ n3_ n4_;clear hb ho87))
 as_aux_lemma =>
 go_loopg [15] kj71 (fun kq v15 w' => ∃ (x12_5 : List Int) (x15_5 : List Int), Aside0 (walk_Route.l2 kq a1 a2 x9_2 x12_5 x15_5 = some r) ∧ Aside0 (kq ≤ kj71) ∧ Aside0 (Kd.S (Kd.slice 3 (Kd.int .i64)) 25 w' w.heap.size (fun k_ => some k_ ≠ ((.slice (some ⟨go83, 0, none⟩) x12_3.length co83) : Value).ownBlock ∧ some k_ ≠ (v15 : Value).ownBlock) v280 x9_2) ∧ Aside0 (Kd.R (Kd.int .i64) 3 w' w.heap.size (fun k_ => some k_ ≠ (v15 : Value).ownBlock) (.slice (some ⟨go83, 0, none⟩) x12_3.length co83) x12_5) ∧ Aside0 (Kd.Q (Kd.int .i64) 3 w' w.heap.size (fun k_ => some k_ ≠ ((.slice (some ⟨go83, 0, none⟩) x12_3.length co83) : Value).ownBlock) v15 x15_5) ∧ Aside0 (w'.heap[gb277]? = some (.cells #[.int .i64 a0_0, (.slice A0_1 l0_1.length c0_1)] 24 (0, 0))) ∧ Aside0 (Below w.heap.size w w'))
 case atStart => exact ⟨(y301), (y302), H', ⟨Nat.le_refl _⟩, ⟨by (with_reducible repeat (first | apply Kd.S_alloc | apply Kd.S_drewN | apply Kd.S_drew)); exact Kd.S_mono HO_9.out (fun _ hk => ⟨hk.1.2, hk.2⟩)⟩, ⟨by (with_reducible repeat (first | apply Kd.R_alloc | apply Kd.R_drewN | apply Kd.R_drew)); exact Kd.R_mono HO_12.out (fun _ hk => hk.2)⟩, ⟨Kd.Q_of_R (by (with_reducible repeat (first | apply Kd.R_alloc | apply Kd.R_drewN | apply Kd.R_drew)); exact Kd.R_mono HO304.out (fun _ hk => hk.2))⟩, ⟨by (with_reducible repeat (first | refine blk_drewN ?_ _ | refine blk_drew ?_ | refine blk_alloc ?_ _)); exact BK277.out⟩, ⟨by repeat (first | (with_reducible first | exact HB.out | apply below_alloc | apply pw_below_drewN | apply below_drew1 | refine below_set ?_ GE277.out) | exact HB.out)⟩⟩
 clear H'
 try clear c2
 try clear p2
 try clear q2
 try clear hx2
 try clear c3
 try clear p3
 try clear q3
 try clear hx3
 try clear c4
 try clear hx4
 try clear hf4
 try clear c5
 try clear hx5
 try clear hf5
 try clear c6
 try clear p6
 try clear q6
 try clear hx6
 try clear hf6
 try clear c7
 try clear c8
 try clear p8
 try clear q8
 try clear hx8
 try clear hf8
 try clear c26
 try clear c26b0
 try clear c27
 try clear c27b0
 try clear c28
 try clear c28b0
 try clear p28
 try clear q28
 try clear hx28
 try clear c29
 try clear c29b0
 try clear p29
 try clear q29
 try clear hx29
 try clear c30
 try clear c30b0
 try clear p30
 try clear q30
 try clear hx30
 try clear c31
 try clear p32
 try clear q32
 try clear c33
 try clear c33b0
 try clear c34
 try clear c34b0
 try clear c35
 try clear p36
 try clear q36
 try clear c38
 try clear c43
 try clear c45
 try clear hx45
 try clear hf45
 try clear c50
 try clear c52
 try clear hx52
 try clear hf52
 try clear c55
 try clear c55b0
 try clear c55b1
 try clear c56
 try clear c56b0
 try clear c56b1
 try clear c60
 try clear c60b0
 try clear c61
 try clear c61b0
 try clear c62
 try clear c62b0
 try clear c63
 try clear c63b0
 try clear c64
 try clear c64b0
 try clear p64
 try clear c65
 try clear c65b0
 try clear c66
 try clear c66b0
 try clear p67
 try clear q67
 try clear hx67
 try clear hf67
 try clear c73
 try clear c73b0
 try clear c74
 try clear c74b0
 try clear c75
 try clear c75b0
 try clear c77
 try clear c77b0
 try clear c78
 try clear c78b0
 try clear c80
 try clear c81
 try clear c81b0
 try clear c82
 try clear c82b0
 try clear p83
 try clear q83
 try clear hx83
 try clear hf83
 try clear hcz39_0
 try clear hcz39_1
 try clear hcz57_0
 try clear hcz57_1
 try clear hcz68_0
 try clear hcz68_1
 try clear hcz71_0
 try clear hcz71_1
 try clear hfz22_0
 try clear hfz22_1
 try clear hfz25_0
 try clear hfz25_1
 try clear hfz39_0
 try clear hfz39_1
 try clear hfz57_0
 try clear hfz57_1
 try clear hfz68_0
 try clear hfz68_1
 try clear hfz71_0
 try clear hfz71_1
 try clear hx282_0
 try clear hx282_1
 try clear hx284_0
 try clear hx289_0
 try clear hx297_0
 try clear hx299_0
 try clear hx300_0
 try clear hx45_0
 try clear hx52_0
 try clear hx67_0
 try clear hx83_0
 try clear p2
 try clear p28
 try clear p282
 try clear p284
 try clear p289
 try clear p29
 try clear p297
 try clear p299
 try clear p3
 try clear p30
 try clear p300
 try clear p32
 try clear p36
 try clear p6
 try clear p64
 try clear p67
 try clear p83
 try clear q2
 try clear q28
 try clear q282
 try clear q284
 try clear q289
 try clear q29
 try clear q297
 try clear q299
 try clear q3
 try clear q30
 try clear q300
 try clear q32
 try clear q36
 try clear q6
 try clear q67
 try clear q83
 obtain ⟨x12_5, x15_5, HA, HK5, HO_9, HO_12, HO_15, BK277, HB⟩ := hrel
 have hl12_5 := (Kd.R_reads' HO_12.out).1
 rw [hl12_5] at HO_12
 (try simp only [hl12_5])
 (try simp only [hl12_5] at BK277)
 (try simp only [hl12_5] at HO_9)
 (try simp only [hl12_5] at HO_15)
 rcases gk with _ | k5
 · exact absurd HA.out (by simp [walk_Route.l2])
 have H := HA.out
 clear HA
 simp only [walk_Route.l2] at H
 have HC88 := Aside0.mk H
 clear H
 go_upto_region 21 with (fail)
 go_cut [124] (fun v124 wc => ∃ (kq : Nat) (x124_87 : Bool), v124 = .bool x124_87 ∧ Aside0 (walk_Route.j5 kq a1 a2 x9_2 x12_5 x15_5 x124_87 = some r) ∧ Aside0 (kq ≤ k5) ∧ Aside0 (Kd.S (Kd.slice 3 (Kd.int .i64)) 25 wc w.heap.size (fun k_ => some k_ ≠ ((.slice (some ⟨go83, 0, none⟩) x12_5.length co83) : Value).ownBlock ∧ some k_ ≠ (u15 : Value).ownBlock) v280 x9_2) ∧ Aside0 (Kd.R (Kd.int .i64) 3 wc w.heap.size (fun k_ => some k_ ≠ (u15 : Value).ownBlock) (.slice (some ⟨go83, 0, none⟩) x12_5.length co83) x12_5) ∧ Aside0 (Kd.Q (Kd.int .i64) 3 wc w.heap.size (fun k_ => some k_ ≠ ((.slice (some ⟨go83, 0, none⟩) x12_5.length co83) : Value).ownBlock) u15 x15_5) ∧ Aside0 (wc.heap[gb277]? = some (.cells #[.int .i64 a0_0, (.slice A0_1 l0_1.length c0_1)] 24 (0, 0))) ∧ Aside0 (Below w.heap.size w wc))
 case first =>
  have H := HC88.out
  clear HC88
  by_cases c89 : (x15_5.length : Int) > 0
  rotate_left
  · rw [if_neg c89] at H
    have c89b0 : decide (0 < (x15_5.length : Int)) = false := decide_eq_false c89
    have c89b1 : decide (0 < x15_5.length) = false := decide_eq_false (by omega)
    clear c89
    (first | rw [c89b0] | (simp only [i64_w, i32_w]; rw [c89b0]) | skip)
    have H' := Aside0.mk H
    clear H
    obtain ⟨Ao93, co93, eo93, _⟩ := Kd.Q_slice HO_15.out
    subst eo93
    go_wp2
    go_meet
    exact ⟨_, (false), (by first|rfl|(simp;done)|(simp [*];done)), H', ⟨by have := HJ4.out;have := HK2.out;have := HK3.out;have := HJ71.out;have := HK5.out;first|omega|exact Nat.le_refl _⟩, ⟨by (try simp only [hl12_5]);(with_reducible repeat (first|apply Kd.S_alloc|apply Kd.S_drewN|apply Kd.S_drew));exact HO_9.out⟩, ⟨by (try simp only [hl12_5]);(with_reducible repeat (first|apply Kd.R_alloc|apply Kd.R_drewN|apply Kd.R_drew));exact HO_12.out⟩, ⟨by (try simp only [hl12_5]);(with_reducible repeat (first|apply Kd.Q_alloc|apply Kd.Q_drewN|apply Kd.Q_drew));exact HO_15.out⟩, ⟨by (try simp only [hl12_5]);(with_reducible repeat (first|refine blk_drewN ?_ _|refine blk_drew ?_|refine blk_alloc ?_ _));exact BK277.out⟩, ⟨by repeat (first|(with_reducible first|exact HB.out|apply below_alloc|apply pw_below_drewN|apply below_drew1|refine below_set ?_ GE277.out)|exact HB.out)⟩⟩
  rw [if_pos c89] at H
  have c89b0 : decide (0 < (x15_5.length : Int)) = true := decide_eq_true c89
  have c89b1 : decide (0 < x15_5.length) = true := decide_eq_true (by omega)
  clear c89
  (first | rw [c89b0] | (simp only [i64_w, i32_w]; rw [c89b0]) | skip)
  by_cases c90 : 0 ≤ a1
  rotate_left
  · rw [if_neg c90] at H
    exact absurd H (by simp)
  rw [if_pos c90] at H
  have c90b0 : decide (0 ≤ a1) = true := decide_eq_true c90
  clear c90
  by_cases c91 : a1 < (x12_5.length : Int)
  rotate_left
  · rw [if_neg c91] at H
    exact absurd H (by simp)
  rw [if_pos c91] at H
  have c91b0 : decide (a1 < (x12_5.length : Int)) = true := decide_eq_true c91
  clear c91
  have H' := Aside0.mk H
  clear H
  obtain ⟨Ao92, co92, eo92, _⟩ := Kd.Q_slice HO_15.out
  subst eo92
  have p305 : 0 ≤ (a1 : Int) := of_decide_eq_true (by first | (with_reducible assumption) | assumption)
  have q305 : a1 < (x12_5.length : Int) := of_decide_eq_true (by first | (with_reducible assumption) | assumption)
  obtain ⟨ad305, e305, hx305_0⟩ := Kd.at_int (Kd.R_reads' HO_12.out).2.2 a1 p305 q305
  obtain rfl : (⟨go83, 0, none⟩ : Addr) = ad305 := (by injection e305)
  (first | simp only [add_plain] at hx305_0 | simp only [add_at] at hx305_0 | simp only [Addr.add, Nat.zero_add] at hx305_0 | skip)
  replace p305 := eq_true p305
  replace q305 := eq_true q305
  go_wp2
  go_meet
  exact ⟨_, (((rd x12_5 a1) == 0)), (by first|rfl|(simp;done)|(simp [*];done)), H', ⟨by have := HJ4.out;have := HK2.out;have := HK3.out;have := HJ71.out;have := HK5.out;first|omega|exact Nat.le_refl _⟩, ⟨by (try simp only [hl12_5]);(with_reducible repeat (first|apply Kd.S_alloc|apply Kd.S_drewN|apply Kd.S_drew));exact HO_9.out⟩, ⟨by (try simp only [hl12_5]);(with_reducible repeat (first|apply Kd.R_alloc|apply Kd.R_drewN|apply Kd.R_drew));exact HO_12.out⟩, ⟨by (try simp only [hl12_5]);(with_reducible repeat (first|apply Kd.Q_alloc|apply Kd.Q_drewN|apply Kd.Q_drew));exact HO_15.out⟩, ⟨by (try simp only [hl12_5]);(with_reducible repeat (first|refine blk_drewN ?_ _|refine blk_drew ?_|refine blk_alloc ?_ _));exact BK277.out⟩, ⟨by repeat (first|(with_reducible first|exact HB.out|apply below_alloc|apply pw_below_drewN|apply below_drew1|refine below_set ?_ GE277.out)|exact HB.out)⟩⟩
 clear HC88
 try clear c2
 try clear p2
 try clear q2
 try clear hx2
 try clear c3
 try clear p3
 try clear q3
 try clear hx3
 try clear c4
 try clear hx4
 try clear hf4
 try clear c5
 try clear hx5
 try clear hf5
 try clear c6
 try clear p6
 try clear q6
 try clear hx6
 try clear hf6
 try clear c7
 try clear c8
 try clear p8
 try clear q8
 try clear hx8
 try clear hf8
 try clear c9
 try clear c26
 try clear c26b0
 try clear c27
 try clear c27b0
 try clear c28
 try clear c28b0
 try clear p28
 try clear q28
 try clear hx28
 try clear c29
 try clear c29b0
 try clear p29
 try clear q29
 try clear hx29
 try clear c30
 try clear c30b0
 try clear p30
 try clear q30
 try clear hx30
 try clear c31
 try clear p32
 try clear q32
 try clear c33
 try clear c33b0
 try clear c34
 try clear c34b0
 try clear c35
 try clear p36
 try clear q36
 try clear c38
 try clear c43
 try clear c45
 try clear hx45
 try clear hf45
 try clear c50
 try clear c52
 try clear hx52
 try clear hf52
 try clear c55
 try clear c55b0
 try clear c55b1
 try clear c56
 try clear c56b0
 try clear c56b1
 try clear c60
 try clear c60b0
 try clear c61
 try clear c61b0
 try clear c62
 try clear c62b0
 try clear c63
 try clear c63b0
 try clear c64
 try clear c64b0
 try clear p64
 try clear c65
 try clear c65b0
 try clear c66
 try clear c66b0
 try clear p67
 try clear q67
 try clear hx67
 try clear hf67
 try clear c73
 try clear c73b0
 try clear c74
 try clear c74b0
 try clear c75
 try clear c75b0
 try clear c77
 try clear c77b0
 try clear c78
 try clear c78b0
 try clear c80
 try clear c81
 try clear c81b0
 try clear c82
 try clear c82b0
 try clear p83
 try clear q83
 try clear hx83
 try clear hf83
 try clear c89
 try clear c89b0
 try clear c89b1
 try clear c90
 try clear c90b0
 try clear c91
 try clear c91b0
 try clear hcz39_0
 try clear hcz39_1
 try clear hcz57_0
 try clear hcz57_1
 try clear hcz68_0
 try clear hcz68_1
 try clear hcz71_0
 try clear hcz71_1
 try clear hfz22_0
 try clear hfz22_1
 try clear hfz25_0
 try clear hfz25_1
 try clear hfz39_0
 try clear hfz39_1
 try clear hfz57_0
 try clear hfz57_1
 try clear hfz68_0
 try clear hfz68_1
 try clear hfz71_0
 try clear hfz71_1
 try clear hx282_0
 try clear hx282_1
 try clear hx284_0
 try clear hx289_0
 try clear hx297_0
 try clear hx299_0
 try clear hx300_0
 try clear hx305_0
 try clear hx45_0
 try clear hx52_0
 try clear hx67_0
 try clear hx83_0
 try clear p2
 try clear p28
 try clear p282
 try clear p284
 try clear p289
 try clear p29
 try clear p297
 try clear p299
 try clear p3
 try clear p30
 try clear p300
 try clear p305
 try clear p32
 try clear p36
 try clear p6
 try clear p64
 try clear p67
 try clear p8
 try clear p83
 try clear q2
 try clear q28
 try clear q282
 try clear q284
 try clear q289
 try clear q29
 try clear q297
 try clear q299
 try clear q3
 try clear q30
 try clear q300
 try clear q305
 try clear q32
 try clear q36
 try clear q6
 try clear q67
 try clear q8
 try clear q83
 obtain ⟨kq, x124_87, rfl, HA, HJ87, HO_9, HO_12, HO_15, BK277, HB⟩ := hcut
 rcases kq with _ | kj87
 · exact absurd HA.out (by simp [walk_Route.j5])
 have H := HA.out
 clear HA
 simp only [walk_Route.j5] at H
 by_cases c94 : x124_87 = true
 · subst c94
   have H1 : (if 0 < (x15_5.length : Int) then (if 0 ≤ (rd x15_5 0) then (if (rd x15_5 0) < (x9_2.length : Int) then (walk_Route.l3 kj87 a1 a2 x9_2 x12_5 x15_5 (rd_L5 x9_2 (rd x15_5 0)) ((rd_L5 x9_2 (rd x15_5 0)).length : Int) 0) else (none)) else (none)) else (none)) = some r := by rw [if_pos rfl] at H; exact H
   clear H
   have H := H1
   clear H1
   by_cases c95 : 0 < (x15_5.length : Int)
   rotate_left
   · rw [if_neg c95] at H
     exact absurd H (by simp)
   rw [if_pos c95] at H
   have c95b0 : decide (0 < (x15_5.length : Int)) = true := decide_eq_true c95
   have c95b1 : decide (0 < x15_5.length) = true := decide_eq_true (by omega)
   clear c95
   by_cases c96 : 0 ≤ (rd x15_5 0)
   rotate_left
   · rw [if_neg c96] at H
     exact absurd H (by simp)
   rw [if_pos c96] at H
   have c96b0 : decide (0 ≤ (rd x15_5 0)) = true := decide_eq_true c96
   clear c96
   by_cases c97 : (rd x15_5 0) < (x9_2.length : Int)
   rotate_left
   · rw [if_neg c97] at H
     exact absurd H (by simp)
   rw [if_pos c97] at H
   have c97b0 : decide ((rd x15_5 0) < (x9_2.length : Int)) = true := decide_eq_true c97
   clear c97
   have H' := Aside0.mk H
   clear H
   obtain ⟨Ao98, co98, eo98, _⟩ := Kd.Q_slice HO_15.out
   subst eo98
   have p306 : 0 ≤ (0 : Int) := (by omega)
   have q306 : 0 < (x15_5.length : Int) := of_decide_eq_true (by first | (with_reducible assumption) | assumption)
   obtain ⟨ad306, e306, hx306_0⟩ := Kd.at_int (Kd.Q_reads' HO_15.out).2.2 0 p306 q306
   cases e306
   have qi306 : (0 < x15_5.length) = True := eq_true (by omega)
   (try rw [show ((0 : Int)).toNat = 0 from rfl] at hx306_0)
   (try rw [Addr.add_zero'] at hx306_0)
   replace p306 := eq_true p306
   replace q306 := eq_true q306
   obtain ⟨Ao99, co99, eo99⟩ := Kd.S_slice HO_9.out
   subst eo99
   have p307 : 0 ≤ ((rd x15_5 0) : Int) := of_decide_eq_true (by first | (with_reducible assumption) | assumption)
   have q307 : (rd x15_5 0) < (x9_2.length : Int) := of_decide_eq_true (by first | (with_reducible assumption) | assumption)
   obtain ⟨ad307, A307_0, c307_0, e307, hx307_0, hl307_0, hi307_0⟩ := at_L5 (Kd.S_reads' HO_9.out).2.2 (rd x15_5 0) p307 q307
   cases e307
   obtain ⟨ce307, hce307, hMe307, hcc307⟩ := Kd.S_get HO_9.out [] (rd x15_5 0) p307 (by first | exact q307 | exact of_decide_eq_true (by first | (with_reducible assumption) | assumption) | (have e_ := (Kd.S_reads' HO_9.out).1; omega))
   obtain ⟨ve307_0, rfl, ge307_0⟩ := hMe307
   have hv307_0 := hcc307 0 _ rfl
   rw [Nat.add_zero, show ((Kd.slice 3 (Kd.int .i64))).sz = 1 from rfl, Nat.mul_one] at hv307_0
   replace hv307_0 := Option.some.inj (hv307_0.symm.trans hx307_0)
   rw [hv307_0] at ge307_0
   have HL307_0 := Aside0.mk (show Kd.R (Kd.int .i64) 3 _ _ _ _ (rd_L5 x9_2 (rd x15_5 0)) from ge307_0)
   clear hv307_0 ge307_0
   have HX307_0 := Aside0.mk hx307_0
   clear hcc307 hce307
   have HR307_0 := Aside0.mk hi307_0
   have HC307_0 := Aside0.mk hl307_0
   clear hi307_0 hl307_0
   replace p307 := eq_true p307
   replace q307 := eq_true q307
   go_wp2
   as_aux_lemma =>
   go_loopg [15, 134] kj87 (fun kq v15 v134 w' => ∃ (x12_7 : List Int) (x15_7 : List Int) (x134_7 : Int), v134 = .int .i64 x134_7 ∧ Aside0 (walk_Route.l3 kq a1 a2 x9_2 x12_7 x15_7 (rd_L5 x9_2 (rd x15_5 0)) ((rd_L5 x9_2 (rd x15_5 0)).length : Int) x134_7 = some r) ∧ Aside0 (kq ≤ kj87) ∧ Aside0 (Kd.S (Kd.slice 3 (Kd.int .i64)) 25 w' w.heap.size (fun k_ => some k_ ≠ ((.slice (some ⟨go83, 0, none⟩) x12_5.length co83) : Value).ownBlock ∧ some k_ ≠ (v15 : Value).ownBlock) (.slice (some ad307) x9_2.length co99) x9_2) ∧ Aside0 (Kd.R (Kd.int .i64) 3 w' w.heap.size (fun k_ => some k_ ≠ (v15 : Value).ownBlock) (.slice (some ⟨go83, 0, none⟩) x12_5.length co83) x12_7) ∧ Aside0 (Kd.Q (Kd.int .i64) 3 w' w.heap.size (fun k_ => some k_ ≠ ((.slice (some ⟨go83, 0, none⟩) x12_5.length co83) : Value).ownBlock) v15 x15_7) ∧ Aside0 (w'.heap[gb277]? = some (.cells #[.int .i64 a0_0, (.slice A0_1 l0_1.length c0_1)] 24 (0, 0))) ∧ Aside0 (Below w.heap.size w w') ∧ Aside0 (Kd.R (Kd.int .i64) 3 w' w.heap.size (fun k_ => some k_ ≠ ((.slice (some ⟨go83, 0, none⟩) x12_5.length co83) : Value).ownBlock ∧ some k_ ≠ (v15 : Value).ownBlock) (.slice A307_0 (rd_L5 x9_2 (rd x15_5 0)).length c307_0) (rd_L5 x9_2 (rd x15_5 0))))
   case atStart => exact ⟨(x12_5), (x15_5), (0), (by first | rfl | (simp; done) | (simp [*]; done)), H', ⟨Nat.le_refl _⟩, ⟨by (try simp only [hl12_5]); (with_reducible repeat (first | apply Kd.S_alloc | apply Kd.S_drewN | apply Kd.S_drew)); exact HO_9.out⟩, ⟨by (try simp only [hl12_5]); (with_reducible repeat (first | apply Kd.R_alloc | apply Kd.R_drewN | apply Kd.R_drew)); exact HO_12.out⟩, ⟨by (try simp only [hl12_5]); (with_reducible repeat (first | apply Kd.Q_alloc | apply Kd.Q_drewN | apply Kd.Q_drew)); exact HO_15.out⟩, ⟨by (try simp only [hl12_5]); (with_reducible repeat (first | refine blk_drewN ?_ _ | refine blk_drew ?_ | refine blk_alloc ?_ _)); exact BK277.out⟩, ⟨by repeat (first | (with_reducible first | exact HB.out | apply below_alloc | apply pw_below_drewN | apply below_drew1 | refine below_set ?_ GE277.out) | exact HB.out)⟩, ⟨by (try simp only [hl12_5]); (with_reducible repeat (first | apply Kd.R_alloc | apply Kd.R_drewN | apply Kd.R_drew)); exact Kd.R_mono HL307_0.out (fun _ hk => hk.1)⟩⟩
   clear H'
   try clear c2
   try clear p2
   try clear q2
   try clear hx2
   try clear c3
   try clear p3
   try clear q3
   try clear hx3
   try clear qi3
   try clear c4
   try clear hx4
   try clear hf4
   try clear c5
   try clear hx5
   try clear hf5
   try clear c6
   try clear p6
   try clear q6
   try clear hx6
   try clear hf6
   try clear c7
   try clear c8
   try clear p8
   try clear q8
   try clear hx8
   try clear hf8
   try clear c9
   try clear c26
   try clear c26b0
   try clear c27
   try clear c27b0
   try clear c28
   try clear c28b0
   try clear p28
   try clear q28
   try clear hx28
   try clear c29
   try clear c29b0
   try clear p29
   try clear q29
   try clear hx29
   try clear c30
   try clear c30b0
   try clear p30
   try clear q30
   try clear hx30
   try clear qi30
   try clear c31
   try clear p32
   try clear q32
   try clear c33
   try clear c33b0
   try clear c34
   try clear c34b0
   try clear c35
   try clear p36
   try clear q36
   try clear c38
   try clear c43
   try clear c45
   try clear hx45
   try clear hf45
   try clear c50
   try clear c52
   try clear hx52
   try clear hf52
   try clear c55
   try clear c55b0
   try clear c55b1
   try clear c56
   try clear c56b0
   try clear c56b1
   try clear c60
   try clear c60b0
   try clear c61
   try clear c61b0
   try clear c62
   try clear c62b0
   try clear c63
   try clear c63b0
   try clear c64
   try clear c64b0
   try clear p64
   try clear c65
   try clear c65b0
   try clear c66
   try clear c66b0
   try clear p67
   try clear q67
   try clear hx67
   try clear hf67
   try clear c73
   try clear c73b0
   try clear c74
   try clear c74b0
   try clear c75
   try clear c75b0
   try clear c77
   try clear c77b0
   try clear c78
   try clear c78b0
   try clear c80
   try clear c81
   try clear c81b0
   try clear c82
   try clear c82b0
   try clear p83
   try clear q83
   try clear hx83
   try clear hf83
   try clear c89
   try clear c89b0
   try clear c89b1
   try clear c90
   try clear c90b0
   try clear c91
   try clear c91b0
   try clear c94
   try clear c95
   try clear c95b0
   try clear c95b1
   try clear c96
   try clear c96b0
   try clear c97
   try clear c97b0
   try clear hcz39_0
   try clear hcz39_1
   try clear hcz57_0
   try clear hcz57_1
   try clear hcz68_0
   try clear hcz68_1
   try clear hcz71_0
   try clear hcz71_1
   try clear hfz22_0
   try clear hfz22_1
   try clear hfz25_0
   try clear hfz25_1
   try clear hfz39_0
   try clear hfz39_1
   try clear hfz57_0
   try clear hfz57_1
   try clear hfz68_0
   try clear hfz68_1
   try clear hfz71_0
   try clear hfz71_1
   try clear hx282_0
   try clear hx282_1
   try clear hx284_0
   try clear hx289_0
   try clear hx297_0
   try clear hx299_0
   try clear hx300_0
   try clear hx305_0
   try clear hx306_0
   try clear hx307_0
   try clear hx45_0
   try clear hx52_0
   try clear hx67_0
   try clear hx83_0
   try clear p2
   try clear p28
   try clear p282
   try clear p284
   try clear p289
   try clear p29
   try clear p297
   try clear p299
   try clear p3
   try clear p30
   try clear p300
   try clear p305
   try clear p306
   try clear p307
   try clear p32
   try clear p36
   try clear p6
   try clear p64
   try clear p67
   try clear p8
   try clear p83
   try clear q2
   try clear q28
   try clear q282
   try clear q284
   try clear q289
   try clear q29
   try clear q297
   try clear q299
   try clear q3
   try clear q30
   try clear q300
   try clear q305
   try clear q306
   try clear q307
   try clear q32
   try clear q36
   try clear q6
   try clear q67
   try clear q8
   try clear q83
   obtain ⟨x12_7, x15_7, x134_7, rfl, HA, HK7, HO_9, HO_12, HO_15, BK277, HB, HLR⟩ := hrel
   have hl12_7 := (Kd.R_reads' HO_12.out).1
   rw [hl12_7] at HO_12
   (try simp only [hl12_7])
   (try simp only [hl12_7] at BK277)
   (try simp only [hl12_7] at HO_9)
   (try simp only [hl12_7] at HLR)
   (try simp only [hl12_7] at HO_15)
   rcases gk with _ | k7
   · exact absurd HA.out (by simp [walk_Route.l3])
   have H := HA.out
   clear HA
   simp only [walk_Route.l3] at H
   by_cases c100 : x134_7 < ((rd_L5 x9_2 (rd x15_5 0)).length : Int)
   rotate_left
   · rw [if_neg c100] at H
     have c100b0 : decide (x134_7 < ((rd_L5 x9_2 (rd x15_5 0)).length : Int)) = false := decide_eq_false c100
     clear c100
     by_cases c115 : 1 ≤ (x15_7.length : Int)
     rotate_left
     · rw [if_neg c115] at H
       exact absurd H (by simp)
     rw [if_pos c115] at H
     have c115b0 := eq_true c115
     have c115b1 : decide (1 ≤ (x15_7.length : Int)) = true := decide_eq_true c115
     clear c115
     obtain ⟨y316, hy316⟩ : ∃ y_ : List Int, y_ = (x15_7.drop (1 : Int).toNat) := ⟨_, rfl⟩
     replace H : (walk_Route.l2 k7 a1 a2 x9_2 x12_7 y316) = some r := by first | (rw [hy316]; with_reducible exact H) | (have H2_ := (Option.bind_some _ _).symm.trans H; rw [hy316]; with_reducible exact H2_) | (have H2_ := (Option.bind_some _ _).symm.trans H; with_reducible exact H2_) | with_reducible exact H | (rw [hy316]; exact H) | exact H
     have Ny316 := Aside0.mk hy316
     clear hy316
     have H' := Aside0.mk H
     clear H
     obtain ⟨Ao116, co116, eo116, _⟩ := Kd.Q_slice HO_15.out
     subst eo116
     have q117 : (1 : Int) ≤ ((x15_7.length : Int) : Int) := of_decide_eq_true (by first | (with_reducible assumption) | assumption)
     obtain ⟨i0117, hi0117, _, hsz117, _⟩ := info_parts info3
     have hcut117 := cut_from (P := Try.prog) 25 3 .i64 Try.underlying25 hi0117 1 hsz117 Ao116 x15_7.length co116 1 (by omega) q117
     have hr117 := Kd.Q_drop (k := (1 : Int).toNat) HO_15.out (by omega)
     obtain ⟨A117, hA117⟩ : ∃ A1, A1 = (if co116 = (1 : Int).toNat then Ao116 else (Ao116 : Option Addr).map (·.add ((1 : Int).toNat * 1))) := ⟨_, rfl⟩
     obtain ⟨c117, hc117⟩ : ∃ c1, c1 = co116 - (1 : Int).toNat := ⟨_, rfl⟩
     have hy117 : y316.length = x15_7.length - (1 : Int).toNat := (by rw [Ny316.out, List.length_drop])
     rw [← Ny316.out] at hr117
     rw [← hy117, ← hA117, ← hc117] at hcut117
     replace hr117 : Kd.Q (Kd.int .i64) 3 wr w.heap.size (fun k_ => some k_ ≠ (.slice (some ⟨go83, 0, none⟩) x12_7.length co83 : Value).ownBlock) (.slice A117 y316.length c117) y316 := (by rw [hA117, hc117, hy117]; exact hr117)
     have HE117 : Aside0 ((Value.slice A117 y316.length c117).ownBlock = (.slice Ao116 x15_7.length co116 : Value).ownBlock) := ⟨by rw [hA117]; split <;> (cases (Ao116 : Option Addr) <;> rfl)⟩
     clear hy117 hi0117 hsz117 HO_15 hA117 hc117
     have HO318 := Aside0.mk hr117
     clear hr117
     replace q117 := eq_true q117
     have n_ := Aside0.mk (Kd.S_mono (ok' := fun k_ => (some k_ ≠ (.slice (some ⟨go83, 0, none⟩) x12_7.length co83 : Value).ownBlock ∧ some k_ ≠ (.slice A117 y316.length c117 : Value).ownBlock)) HO_9.out (fun k_ hk => ⟨hk.1, (by rw [HE117.out]; exact hk.2)⟩))
     clear HO_9
     have HO_9 := n_
     clear n_
     have n_ := Aside0.mk (Kd.R_mono (ok' := fun k_ => some k_ ≠ (.slice A117 y316.length c117 : Value).ownBlock) HO_12.out (fun k_ hk => (by rw [HE117.out]; exact hk)))
     clear HO_12
     have HO_12 := n_
     clear n_
     go_wp2
     (try simp only [← hl12_5, ← hl12_7])
     go_roundg k7
     case measure => have := HJ4.out; have := HK2.out; have := HK3.out; have := HJ71.out; have := HK5.out; have := HJ87.out; have := HK7.out; omega
     exact ⟨(x12_7), (y316), H', ⟨by have := HJ4.out;have := HK2.out;have := HK3.out;have := HJ71.out;have := HK5.out;have := HJ87.out;have := HK7.out;omega⟩, ⟨by (try simp only [hl12_5]);(try simp only [hl12_7]);(with_reducible repeat (first|apply Kd.S_alloc|apply Kd.S_drewN|apply Kd.S_drew));exact HO_9.out⟩, ⟨by (try simp only [hl12_5]);(try simp only [hl12_7]);(with_reducible repeat (first|apply Kd.R_alloc|apply Kd.R_drewN|apply Kd.R_drew));exact HO_12.out⟩, ⟨by (try simp only [hl12_5]);(try simp only [hl12_7]);(with_reducible repeat (first|apply Kd.Q_alloc|apply Kd.Q_drewN|apply Kd.Q_drew));exact HO318.out⟩, ⟨by (try simp only [hl12_5]);(try simp only [hl12_7]);(with_reducible repeat (first|refine blk_drewN ?_ _|refine blk_drew ?_|refine blk_alloc ?_ _));exact BK277.out⟩, ⟨by repeat (first|(with_reducible first|exact HB.out|apply below_alloc|apply pw_below_drewN|apply below_drew1|refine below_set ?_ GE277.out)|exact HB.out)⟩⟩
   rw [if_pos c100] at H
   have c100b0 : decide (x134_7 < ((rd_L5 x9_2 (rd x15_5 0)).length : Int)) = true := decide_eq_true c100
   clear c100
   by_cases c101 : 0 ≤ x134_7
   rotate_left
   · rw [if_neg c101] at H
     exact absurd H (by simp)
   rw [if_pos c101] at H
   have c101b0 : decide (0 ≤ x134_7) = true := decide_eq_true c101
   clear c101
   by_cases c102 : x134_7 < ((rd_L5 x9_2 (rd x15_5 0)).length : Int)
   rotate_left
   · rw [if_neg c102] at H
     exact absurd H (by simp)
   rw [if_pos c102] at H
   have c102b0 : decide (x134_7 < ((rd_L5 x9_2 (rd x15_5 0)).length : Int)) = true := decide_eq_true c102
   clear c102
   by_cases c103 : 0 ≤ (rd (rd_L5 x9_2 (rd x15_5 0)) x134_7)
   rotate_left
   · rw [if_neg c103] at H
     exact absurd H (by simp)
   rw [if_pos c103] at H
   have c103b0 : decide (0 ≤ (rd (rd_L5 x9_2 (rd x15_5 0)) x134_7)) = true := decide_eq_true c103
   clear c103
   by_cases c104 : (rd (rd_L5 x9_2 (rd x15_5 0)) x134_7) < (x12_7.length : Int)
   rotate_left
   · rw [if_neg c104] at H
     exact absurd H (by simp)
   rw [if_pos c104] at H
   have c104b0 : decide ((rd (rd_L5 x9_2 (rd x15_5 0)) x134_7) < (x12_7.length : Int)) = true := decide_eq_true c104
   clear c104
   by_cases c105 : (rd x12_7 (rd (rd_L5 x9_2 (rd x15_5 0)) x134_7)) = 0
   rotate_left
   · rw [if_neg c105] at H
     have c105b0 : ((rd x12_7 (rd (rd_L5 x9_2 (rd x15_5 0)) x134_7)) == 0) = false := beq_eq_false_iff_ne.mpr c105
     have c105b1 : ((rd x12_7 (rd (rd_L5 x9_2 (rd x15_5 0)) x134_7)) != 0) = true := bne_iff_ne.mpr c105
     have H' := Aside0.mk H
     clear H
     have p308 : 0 ≤ (x134_7 : Int) := of_decide_eq_true (by first | (with_reducible assumption) | assumption)
     have q308 : x134_7 < ((rd_L5 x9_2 (rd x15_5 0)).length : Int) := of_decide_eq_true (by first | (with_reducible assumption) | assumption)
     obtain ⟨ad308, e308, hx308_0⟩ := Kd.at_int (Kd.R_reads' HLR.out).2.2 x134_7 p308 q308
     cases e308
     replace p308 := eq_true p308
     replace q308 := eq_true q308
     have p309 : 0 ≤ ((rd (rd_L5 x9_2 (rd x15_5 0)) x134_7) : Int) := of_decide_eq_true (by first | (with_reducible assumption) | assumption)
     have q309 : (rd (rd_L5 x9_2 (rd x15_5 0)) x134_7) < (x12_7.length : Int) := of_decide_eq_true (by first | (with_reducible assumption) | assumption)
     obtain ⟨ad309, e309, hx309_0⟩ := Kd.at_int (Kd.R_reads' HO_12.out).2.2 (rd (rd_L5 x9_2 (rd x15_5 0)) x134_7) p309 q309
     obtain rfl : (⟨go83, 0, none⟩ : Addr) = ad309 := (by injection e309)
     (first | simp only [add_plain] at hx309_0 | simp only [add_at] at hx309_0 | simp only [Addr.add, Nat.zero_add] at hx309_0 | skip)
     replace p309 := eq_true p309
     replace q309 := eq_true q309
     go_wp2
     (try simp only [← hl12_7])
     go_roundg k7
     case measure => have := HJ4.out; have := HK2.out; have := HK3.out; have := HJ71.out; have := HK5.out; have := HJ87.out; have := HK7.out; omega
     exact ⟨(x12_7), (x15_7), (wrap64 (x134_7 + 1)), (by first|rfl|(simp;done)|(simp [*];done)), H', ⟨by have := HJ4.out;have := HK2.out;have := HK3.out;have := HJ71.out;have := HK5.out;have := HJ87.out;have := HK7.out;omega⟩, ⟨by (try simp only [hl12_5]);(try simp only [hl12_7]);(with_reducible repeat (first|apply Kd.S_alloc|apply Kd.S_drewN|apply Kd.S_drew));exact HO_9.out⟩, ⟨by (try simp only [hl12_5]);(try simp only [hl12_7]);(with_reducible repeat (first|apply Kd.R_alloc|apply Kd.R_drewN|apply Kd.R_drew));exact HO_12.out⟩, ⟨by (try simp only [hl12_5]);(try simp only [hl12_7]);(with_reducible repeat (first|apply Kd.Q_alloc|apply Kd.Q_drewN|apply Kd.Q_drew));exact HO_15.out⟩, ⟨by (try simp only [hl12_5]);(try simp only [hl12_7]);(with_reducible repeat (first|refine blk_drewN ?_ _|refine blk_drew ?_|refine blk_alloc ?_ _));exact BK277.out⟩, ⟨by repeat (first|(with_reducible first|exact HB.out|apply below_alloc|apply pw_below_drewN|apply below_drew1|refine below_set ?_ GE277.out)|exact HB.out)⟩, ⟨by (try simp only [hl12_5]);(try simp only [hl12_7]);(with_reducible repeat (first|apply Kd.R_alloc|apply Kd.R_drewN|apply Kd.R_drew));exact HLR.out⟩⟩
   rw [if_pos c105] at H
   have c105b0 : ((rd x12_7 (rd (rd_L5 x9_2 (rd x15_5 0)) x134_7)) == 0) = true := beq_iff_eq.mpr c105
   have c105b1 : ((rd x12_7 (rd (rd_L5 x9_2 (rd x15_5 0)) x134_7)) != 0) = false := bne_eq_false_iff_eq.mpr c105
   clear c105
   by_cases c106 : 0 < (x15_7.length : Int)
   rotate_left
   · rw [if_neg c106] at H
     exact absurd H (by simp)
   rw [if_pos c106] at H
   have c106b0 : decide (0 < (x15_7.length : Int)) = true := decide_eq_true c106
   have c106b1 : decide (0 < x15_7.length) = true := decide_eq_true (by omega)
   clear c106
   by_cases c107 : 0 ≤ (rd x15_7 0)
   rotate_left
   · rw [if_neg c107] at H
     exact absurd H (by simp)
   rw [if_pos c107] at H
   have c107b0 : decide (0 ≤ (rd x15_7 0)) = true := decide_eq_true c107
   clear c107
   by_cases c108 : (rd x15_7 0) < (x12_7.length : Int)
   rotate_left
   · rw [if_neg c108] at H
     exact absurd H (by simp)
   rw [if_pos c108] at H
   have c108b0 : decide ((rd x15_7 0) < (x12_7.length : Int)) = true := decide_eq_true c108
   clear c108
   obtain ⟨y312, hy312⟩ : ∃ y_ : List Int, y_ = (x12_7.set ((rd (rd_L5 x9_2 (rd x15_5 0)) x134_7) : Int).toNat (wrap64 ((rd x12_7 (rd x15_7 0)) + 1))) := ⟨_, rfl⟩
   replace H : (if x15_7.length < 17592186044416 then (walk_Route.l3 k7 a1 a2 x9_2 y312 (x15_7 ++ [rd (rd_L5 x9_2 (rd x15_5 0)) x134_7]) (rd_L5 x9_2 (rd x15_5 0)) ((rd_L5 x9_2 (rd x15_5 0)).length : Int) (wrap64 (x134_7 + 1))) else (none)) = some r := by first | (rw [hy312]; with_reducible exact H) | (have H2_ := (Option.bind_some _ _).symm.trans H; rw [hy312]; with_reducible exact H2_) | (have H2_ := (Option.bind_some _ _).symm.trans H; with_reducible exact H2_) | with_reducible exact H | (rw [hy312]; exact H) | exact H
   have Ny312 := Aside0.mk hy312
   clear hy312
   by_cases c110 : x15_7.length < 17592186044416
   rotate_left
   · rw [if_neg c110] at H
     exact absurd H (by simp)
   rw [if_pos c110] at H
   have LMc110 := Aside0.mk c110
   clear c110
   obtain ⟨y313, hy313⟩ : ∃ y_ : List Int, y_ = (x15_7 ++ [rd (rd_L5 x9_2 (rd x15_5 0)) x134_7]) := ⟨_, rfl⟩
   replace H : (walk_Route.l3 k7 a1 a2 x9_2 y312 y313 (rd_L5 x9_2 (rd x15_5 0)) ((rd_L5 x9_2 (rd x15_5 0)).length : Int) (wrap64 (x134_7 + 1))) = some r := by first | (rw [hy313]; with_reducible exact H) | (have H2_ := (Option.bind_some _ _).symm.trans H; rw [hy313]; with_reducible exact H2_) | (have H2_ := (Option.bind_some _ _).symm.trans H; with_reducible exact H2_) | with_reducible exact H | (rw [hy313]; exact H) | exact H
   have Ny313 := Aside0.mk hy313
   clear hy313
   have H' := Aside0.mk H
   clear H
   have p308 : 0 ≤ (x134_7 : Int) := of_decide_eq_true (by first | (with_reducible assumption) | assumption)
   have q308 : x134_7 < ((rd_L5 x9_2 (rd x15_5 0)).length : Int) := of_decide_eq_true (by first | (with_reducible assumption) | assumption)
   obtain ⟨ad308, e308, hx308_0⟩ := Kd.at_int (Kd.R_reads' HLR.out).2.2 x134_7 p308 q308
   cases e308
   replace p308 := eq_true p308
   replace q308 := eq_true q308
   have p309 : 0 ≤ ((rd (rd_L5 x9_2 (rd x15_5 0)) x134_7) : Int) := of_decide_eq_true (by first | (with_reducible assumption) | assumption)
   have q309 : (rd (rd_L5 x9_2 (rd x15_5 0)) x134_7) < (x12_7.length : Int) := of_decide_eq_true (by first | (with_reducible assumption) | assumption)
   obtain ⟨ad309, e309, hx309_0⟩ := Kd.at_int (Kd.R_reads' HO_12.out).2.2 (rd (rd_L5 x9_2 (rd x15_5 0)) x134_7) p309 q309
   obtain rfl : (⟨go83, 0, none⟩ : Addr) = ad309 := (by injection e309)
   (first | simp only [add_plain] at hx309_0 | simp only [add_at] at hx309_0 | simp only [Addr.add, Nat.zero_add] at hx309_0 | skip)
   replace p309 := eq_true p309
   replace q309 := eq_true q309
   obtain ⟨Ao111, co111, eo111, _⟩ := Kd.Q_slice HO_15.out
   subst eo111
   have p310 : 0 ≤ (0 : Int) := (by omega)
   have q310 : 0 < (x15_7.length : Int) := of_decide_eq_true (by first | (with_reducible assumption) | assumption)
   obtain ⟨ad310, e310, hx310_0⟩ := Kd.at_int (Kd.Q_reads' HO_15.out).2.2 0 p310 q310
   cases e310
   have qi310 : (0 < x15_7.length) = True := eq_true (by omega)
   (try rw [show ((0 : Int)).toNat = 0 from rfl] at hx310_0)
   (try rw [Addr.add_zero'] at hx310_0)
   replace p310 := eq_true p310
   replace q310 := eq_true q310
   have p311 : 0 ≤ ((rd x15_7 0) : Int) := of_decide_eq_true (by first | (with_reducible assumption) | assumption)
   have q311 : (rd x15_7 0) < (x12_7.length : Int) := of_decide_eq_true (by first | (with_reducible assumption) | assumption)
   obtain ⟨ad311, e311, hx311_0⟩ := Kd.at_int (Kd.R_reads' HO_12.out).2.2 (rd x15_7 0) p311 q311
   obtain rfl : (⟨go83, 0, none⟩ : Addr) = ad311 := (by injection e311)
   (first | simp only [add_plain] at hx311_0 | simp only [add_at] at hx311_0 | simp only [Addr.add, Nat.zero_add] at hx311_0 | skip)
   replace p311 := eq_true p311
   replace q311 := eq_true q311
   have p109 : 0 ≤ ((rd (rd_L5 x9_2 (rd x15_5 0)) x134_7) : Int) := of_decide_eq_true (by first | (with_reducible assumption) | assumption)
   have q109 : ((rd (rd_L5 x9_2 (rd x15_5 0)) x134_7) : Int) < ((x12_7.length : Int) : Int) := of_decide_eq_true (by first | (with_reducible assumption) | assumption)
   obtain ⟨hx109_0, hf109_0⟩ := Kd.R_celln 0 HO_12.out ((rd (rd_L5 x9_2 (rd x15_5 0)) x134_7) : Int) p109 q109
   replace p109 := eq_true p109
   replace q109 := eq_true q109
   have HP112 := Kd.R_putg HO_12.out ((rd (rd_L5 x9_2 (rd x15_5 0)) x134_7) : Int) (wrap64 ((rd x12_7 (rd x15_7 0)) + 1))
   go_wp2_with (first|((with_reducible refine gate_store (t := 3) (p := 152) rfl ?_);refine store_event (t := 3) (p := 152) (v := ?vo_w113) (w1 := (wr.setCell ⟨go83, ((rd (rd_L5 x9_2 (rd x15_5 0)) x134_7) : Int).toNat, none⟩ (.int .i64 (wrap64 ((rd x12_7 (rd x15_7 0)) + 1))))) ?hg ?ho ?hn ?hr ?_;(case ho => rfl);(case hg => rfl);(case hn => rfl);(case hr => first|(go_simp;done)|(go_simp;rfl));intro w113 hw;have hg : wr.grownBy w113 (some go83) := (by rw [hw];exact HP112.2);have hp_ : Kd.R (Kd.int .i64) 3 w113 w.heap.size (fun k_ => some k_ ≠ (.slice (some ad310) x15_7.length co111 : Value).ownBlock) (.slice (some ⟨go83, 0, none⟩) x12_7.length co83) y312 := (by rw [hw, Ny312.out];exact HP112.1);clear HP112;have n0_ := Aside0.mk (Kd.S_after (v := (.slice (some ⟨go83, 0, none⟩) x12_7.length co83)) (v1 := (.slice (some ⟨go83, 0, none⟩) x12_7.length co83)) (ok := (fun k_ => some k_ ≠ (.slice (some ad310) x15_7.length co111 : Value).ownBlock)) (by (with_reducible repeat (first|apply Kd.S_alloc|apply Kd.S_drewN|apply Kd.S_drew));exact Kd.S_mono HO_9.out (fun _ hk => ⟨hk.2, hk.1⟩)) hg (.inl rfl));have nL_ := Aside0.mk (Kd.R_after (v := (.slice (some ⟨go83, 0, none⟩) x12_7.length co83)) (v1 := (.slice (some ⟨go83, 0, none⟩) x12_7.length co83)) (ok := (fun k_ => some k_ ≠ (.slice (some ad310) x15_7.length co111 : Value).ownBlock)) (by (with_reducible repeat (first|apply Kd.R_alloc|apply Kd.R_drewN|apply Kd.R_drew));exact Kd.R_mono HLR.out (fun _ hk => ⟨hk.2, hk.1⟩)) hg (.inl rfl));have n1_ := Aside0.mk (hp_);have n2_ := Aside0.mk (Kd.Q_after (v := (.slice (some ⟨go83, 0, none⟩) x12_7.length co83)) (v1 := (.slice (some ⟨go83, 0, none⟩) x12_7.length co83)) (ok := (fun _ => True)) (by (with_reducible repeat (first|apply Kd.Q_alloc|apply Kd.Q_drewN|apply Kd.Q_drew));exact Kd.Q_mono HO_15.out (fun _ hk => ⟨trivial, hk⟩)) hg (.inl rfl));have n3_ := Aside0.mk (blk_grown (g := gb277) (o := .cells #[.int .i64 a0_0, .slice A0_1 l0_1.length c0_1] 24 (0, 0)) (by (with_reducible repeat (first|refine blk_drewN ?_ _|refine blk_drew ?_|refine blk_alloc ?_ _));exact BK277.out) hg (Kd.R_ne HO_12.out BK277.out (by decide)));have n4_ := Aside0.mk ((by rw [hw];exact below_set (HB.out) GB83.out : Below w.heap.size w w113));clear HO_9;clear HLR;clear HO_12;clear HO_15;clear BK277;clear HB;have HO_9 := n0_;have HLR := nL_;clear nL_;have HO_12 := n1_;have HO_15 := n2_;have BK277 := n3_;have HB := n4_;clear n0_ n1_ n2_ n3_ n4_;clear hg hw hp_)|((with_reducible refine gate_builtin (b := .append) (xs := #[.tmp 158, .tmp 160]) rfl ?_);(try (refine gate_guard (by rfl) ?_;dsimp only));at_builtin;refine Q_append3 (Kd.int .i64) rfl (w0 := w) w.heap.size rfl (.tmp 158) (.tmp 160) 25 3 (.int .i64 0) 8 rfl Try.underlying25 info3 rfl (by decide) (by omega) (.slice (some ad310) x15_7.length co111) x15_7 (rd (rd_L5 x9_2 (rd x15_5 0)) x134_7) [.int .i64 (rd (rd_L5 x9_2 (rd x15_5 0)) x134_7)] (fun k_ => some k_ ≠ (.slice (some ⟨go83, 0, none⟩) x12_7.length co83 : Value).ownBlock) (fun _ => False) rfl rfl ?aP (fun _ hk => hk.elim) ?aF ?aO ?aB ?aS ?aL ?_;(case aP => exact rfl);(case aB => exact (by repeat (first|(with_reducible first|exact HB.out|apply below_alloc|apply pw_below_drewN|apply below_drew1|refine below_set ?_ GE277.out)|exact HB.out)));(case aF => exact (fun k_ hk => Kd.fresh' (Kd.R_lt (by (with_reducible repeat (first|apply Kd.R_alloc|apply Kd.R_drewN|apply Kd.R_drew));exact HO_12.out)) k_ hk));(case aO => exact (by (with_reducible repeat (first|apply Kd.Q_alloc|apply Kd.Q_drewN|apply Kd.Q_drew));exact Kd.Q_mono HO_15.out (fun _ hk => hk.2)));(case aS => exact (below_size (by repeat (first|(with_reducible first|exact HB.out|apply below_alloc|apply pw_below_drewN|apply below_drew1|refine below_set ?_ GE277.out)|exact HB.out))));(case aL => have := LMc110.out;omega);intro v314 w114 ho hb hg hat;rw [← Ny313.out] at ho;have n0_ := Aside0.mk (Kd.S_after (ok := (fun k_ => some k_ ≠ (.slice (some ⟨go83, 0, none⟩) x12_7.length co83 : Value).ownBlock)) (by (with_reducible repeat (first|apply Kd.S_alloc|apply Kd.S_drewN|apply Kd.S_drew));exact Kd.S_mono HO_9.out (fun _ hk => ⟨hk.2, hk.1⟩)) hg hat);have nL_ := Aside0.mk (Kd.R_after (ok := (fun k_ => some k_ ≠ (.slice (some ⟨go83, 0, none⟩) x12_7.length co83 : Value).ownBlock)) (by (with_reducible repeat (first|apply Kd.R_alloc|apply Kd.R_drewN|apply Kd.R_drew));exact Kd.R_mono HLR.out (fun _ hk => ⟨hk.2, hk.1⟩)) hg hat);have n1_ := Aside0.mk (Kd.R_after (ok := (fun _ => True)) (by (with_reducible repeat (first|apply Kd.R_alloc|apply Kd.R_drewN|apply Kd.R_drew));exact Kd.R_mono HO_12.out (fun _ hk => ⟨trivial, hk⟩)) hg hat);have n2_ := Aside0.mk (blk_grown (g := gb277) (o := .cells #[.int .i64 a0_0, .slice A0_1 l0_1.length c0_1] 24 (0, 0)) (by (with_reducible repeat (first|refine blk_drewN ?_ _|refine blk_drew ?_|refine blk_alloc ?_ _));exact BK277.out) hg (Kd.Q_ne HO_15.out BK277.out (by decide)));have n3_ := Aside0.mk (hb);have n4_ := Aside0.mk (ho);clear HO_9;clear HLR;clear HO_12;clear BK277;clear HB;clear HO_15;have HO_9 := n0_;have HLR := nL_;clear nL_;have HO_12 := n1_;have BK277 := n2_;have HB := n3_;have HO315 := n4_;clear n0_ n1_ n2_ n3_ n4_;clear ho hb hg hat))
   (try simp only [← hl12_7])
   go_roundg k7
   case measure => have := HJ4.out; have := HK2.out; have := HK3.out; have := HJ71.out; have := HK5.out; have := HJ87.out; have := HK7.out; omega
   exact ⟨(y312), (y313), (wrap64 (x134_7 + 1)), (by first|rfl|(simp;done)|(simp [*];done)), H', ⟨by have := HJ4.out;have := HK2.out;have := HK3.out;have := HJ71.out;have := HK5.out;have := HJ87.out;have := HK7.out;omega⟩, ⟨by (try simp only [hl12_5]);(try simp only [hl12_7]);(with_reducible repeat (first|apply Kd.S_alloc|apply Kd.S_drewN|apply Kd.S_drew));exact HO_9.out⟩, ⟨by (try simp only [hl12_5]);(try simp only [hl12_7]);(with_reducible repeat (first|apply Kd.R_alloc|apply Kd.R_drewN|apply Kd.R_drew));exact Kd.R_mono HO_12.out (fun _ hk => hk.2)⟩, ⟨by (try simp only [hl12_5]);(try simp only [hl12_7]);(with_reducible repeat (first|apply Kd.Q_alloc|apply Kd.Q_drewN|apply Kd.Q_drew));exact HO315.out⟩, ⟨by (try simp only [hl12_5]);(try simp only [hl12_7]);(with_reducible repeat (first|refine blk_drewN ?_ _|refine blk_drew ?_|refine blk_alloc ?_ _));exact BK277.out⟩, ⟨by repeat (first|(with_reducible first|exact HB.out|apply below_alloc|apply pw_below_drewN|apply below_drew1|refine below_set ?_ GE277.out)|exact HB.out)⟩, ⟨by (try simp only [hl12_5]);(try simp only [hl12_7]);(with_reducible repeat (first|apply Kd.R_alloc|apply Kd.R_drewN|apply Kd.R_drew));exact HLR.out⟩⟩
 replace c94 := Bool.eq_false_iff.mpr c94
 subst c94
 have H1 : (if 0 ≤ a1 then (if a1 < (x12_5.length : Int) then (if (rd x12_5 a1) = 0 then (some ([] : List Int)) else (walk_Route.l4 kj87 a2 x9_2 x12_5 (([a1] : List Int)) a1)) else (none)) else (none)) = some r := by rw [if_neg (show ¬ (false = true) by decide)] at H; exact H
 clear H
 have H := H1
 clear H1
 by_cases c118 : 0 ≤ a1
 rotate_left
 · rw [if_neg c118] at H
   exact absurd H (by simp)
 rw [if_pos c118] at H
 have c118b0 : decide (0 ≤ a1) = true := decide_eq_true c118
 clear c118
 by_cases c119 : a1 < (x12_5.length : Int)
 rotate_left
 · rw [if_neg c119] at H
   exact absurd H (by simp)
 rw [if_pos c119] at H
 have c119b0 : decide (a1 < (x12_5.length : Int)) = true := decide_eq_true c119
 clear c119
 by_cases c120 : (rd x12_5 a1) = 0
 · rw [if_pos c120] at H
   have c120b0 : ((rd x12_5 a1) == 0) = true := beq_iff_eq.mpr c120
   have c120b1 : ((rd x12_5 a1) != 0) = false := bne_eq_false_iff_eq.mpr c120
   clear c120
   obtain rfl := Option.some.inj H
   have p319 : 0 ≤ (a1 : Int) := of_decide_eq_true (by first | (with_reducible assumption) | assumption)
   have q319 : a1 < (x12_5.length : Int) := of_decide_eq_true (by first | (with_reducible assumption) | assumption)
   obtain ⟨ad319, e319, hx319_0⟩ := Kd.at_int (Kd.R_reads' HO_12.out).2.2 a1 p319 q319
   obtain rfl : (⟨go83, 0, none⟩ : Addr) = ad319 := (by injection e319)
   (first | simp only [add_plain] at hx319_0 | simp only [add_at] at hx319_0 | simp only [Addr.add, Nat.zero_add] at hx319_0 | skip)
   replace p319 := eq_true p319
   replace q319 := eq_true q319
   go_wp2
   go_ret
   exact ⟨_, by first|rfl|(simp [errW_none, errW_some] <;> rfl)|(simp [*, errW_none, errW_some] <;> rfl), by first|exact Kd.R_nil _ _ _ _ _|exact Kd.N_nil _ _ _ _ _|exact Kd.V_nil _ _ _ _ _|exact Kd.Q_nil _ _ _ _ _|exact Kd.S_nil _ _ _ _ _, by repeat (first|(with_reducible first|exact HB.out|apply below_alloc|apply pw_below_drewN|apply below_drew1|refine below_set ?_ GE277.out)|exact HB.out)⟩
 rw [if_neg c120] at H
 have c120b0 : ((rd x12_5 a1) == 0) = false := beq_eq_false_iff_ne.mpr c120
 have c120b1 : ((rd x12_5 a1) != 0) = true := bne_iff_ne.mpr c120
 obtain ⟨y320, hy320⟩ : ∃ y_ : List Int, y_ = (([a1] : List Int)) := ⟨_, rfl⟩
 replace H : (walk_Route.l4 kj87 a2 x9_2 x12_5 y320 a1) = some r := by first | (rw [hy320]; with_reducible exact H) | (have H2_ := (Option.bind_some _ _).symm.trans H; rw [hy320]; with_reducible exact H2_) | (have H2_ := (Option.bind_some _ _).symm.trans H; with_reducible exact H2_) | with_reducible exact H | (rw [hy320]; exact H) | exact H
 have Ny320 := Aside0.mk hy320
 clear hy320
 have H' := Aside0.mk H
 clear H
 have p319 : 0 ≤ (a1 : Int) := of_decide_eq_true (by first | (with_reducible assumption) | assumption)
 have q319 : a1 < (x12_5.length : Int) := of_decide_eq_true (by first | (with_reducible assumption) | assumption)
 obtain ⟨ad319, e319, hx319_0⟩ := Kd.at_int (Kd.R_reads' HO_12.out).2.2 a1 p319 q319
 obtain rfl : (⟨go83, 0, none⟩ : Addr) = ad319 := (by injection e319)
 (first | simp only [add_plain] at hx319_0 | simp only [add_at] at hx319_0 | simp only [Addr.add, Nat.zero_add] at hx319_0 | skip)
 replace p319 := eq_true p319
 replace q319 := eq_true q319
 go_wp2_with (first|((with_reducible refine gate_dst (N := 169) rfl ?_);(try (refine gate_guard (by rfl) ?_;dsimp only));refine Kd.R_lit (Kd.int .i64) _ 3 ?hg (N := 169) ?hd (xs := ([a1] : List Int)) (inner := [.int .i64 a1]) (ok := fun _ => True) (okp := fun _ => True) ?hr ?hp (fun _ hk => hk) trivial (Below.refl _ _) (Nat.le_refl _) (by simp) ?_;(case hd => rfl);(case hg => rfl);(case hr => first|(go_simp;done)|(go_simp;rfl));(case hp => exact (Reps.one (show Kd.M (Kd.int .i64) _ _ _ a1 [.int .i64 a1] from rfl) (Reps.none _ _)));intro v321 w121 ho122 hb hg_ hnew_;clear hg_ hnew_;(first|rw [← Ny320.out] at ho122|(simp only [Int.reduceToNat] at ho122;rw [← Ny320.out] at ho122));have n0_ := Aside0.mk (Kd.S_elder' (by (with_reducible repeat (first|apply Kd.S_alloc|apply Kd.S_drewN|apply Kd.S_drew));exact HO_9.out) (Kd.R_base ho122) hb);have n1_ := Aside0.mk (Kd.R_elder' (by (with_reducible repeat (first|apply Kd.R_alloc|apply Kd.R_drewN|apply Kd.R_drew));exact HO_12.out) (Kd.R_base ho122) hb);have n2_ := Aside0.mk (Kd.Q_elder' (by (with_reducible repeat (first|apply Kd.Q_alloc|apply Kd.Q_drewN|apply Kd.Q_drew));exact HO_15.out) (Kd.R_base ho122) hb);have n3_ := Aside0.mk (Kd.R_lower (Kd.R_new' (Kd.R_new' ho122 (Kd.R_lt (by (with_reducible repeat (first|apply Kd.R_alloc|apply Kd.R_drewN|apply Kd.R_drew));exact HO_12.out))) (Kd.Q_lt (by (with_reducible repeat (first|apply Kd.Q_alloc|apply Kd.Q_drewN|apply Kd.Q_drew));exact HO_15.out))) (below_size (by repeat (first|(with_reducible first|exact HB.out|apply below_alloc|apply pw_below_drewN|apply below_drew1|refine below_set ?_ GE277.out)|exact HB.out))));have n4_ := Aside0.mk (blk_below (g := gb277) (o := .cells #[.int .i64 a0_0, .slice A0_1 l0_1.length c0_1] 24 (0, 0)) (by (with_reducible repeat (first|refine blk_drewN ?_ _|refine blk_drew ?_|refine blk_alloc ?_ _));exact BK277.out) hb);have n5_ := Aside0.mk (below_step (by repeat (first|(with_reducible first|exact HB.out|apply below_alloc|apply pw_below_drewN|apply below_drew1|refine below_set ?_ GE277.out)|exact HB.out)) hb);clear HO_9;clear HO_12;clear HO_15;clear BK277;clear HB;have HO_9 := n0_;have HO_12 := n1_;have HO_15 := n2_;have HO322 := n3_;have BK277 := n4_;have HB := n5_;clear n0_ n1_ n2_ n3_ n4_ n5_;clear hb ho122))
 as_aux_lemma =>
 go_loopg [18, 19] kj87 (fun kq v18 v19 w' => ∃ (x18_7 : List Int) (x19_7 : Int), v19 = .int .i64 x19_7 ∧ Aside0 (walk_Route.l4 kq a2 x9_2 x12_5 x18_7 x19_7 = some r) ∧ Aside0 (kq ≤ kj87) ∧ Aside0 (Kd.S (Kd.slice 3 (Kd.int .i64)) 25 w' w.heap.size (fun k_ => some k_ ≠ ((.slice (some ⟨go83, 0, none⟩) x12_5.length co83) : Value).ownBlock ∧ some k_ ≠ (v18 : Value).ownBlock) v280 x9_2) ∧ Aside0 (Kd.R (Kd.int .i64) 3 w' w.heap.size (fun k_ => some k_ ≠ (v18 : Value).ownBlock) (.slice (some ⟨go83, 0, none⟩) x12_5.length co83) x12_5) ∧ Aside0 (Kd.R (Kd.int .i64) 3 w' w.heap.size (fun k_ => some k_ ≠ ((.slice (some ⟨go83, 0, none⟩) x12_5.length co83) : Value).ownBlock) v18 x18_7) ∧ Aside0 (w'.heap[gb277]? = some (.cells #[.int .i64 a0_0, (.slice A0_1 l0_1.length c0_1)] 24 (0, 0))) ∧ Aside0 (Below w.heap.size w w'))
 case atStart => exact ⟨(y320), (a1), (by first | rfl | (simp; done) | (simp [*]; done)), H', ⟨Nat.le_refl _⟩, ⟨by (try simp only [hl12_5]); (with_reducible repeat (first | apply Kd.S_alloc | apply Kd.S_drewN | apply Kd.S_drew)); exact Kd.S_mono HO_9.out (fun _ hk => ⟨hk.1.1, hk.2⟩)⟩, ⟨by (try simp only [hl12_5]); (with_reducible repeat (first | apply Kd.R_alloc | apply Kd.R_drewN | apply Kd.R_drew)); exact Kd.R_mono HO_12.out (fun _ hk => hk.2)⟩, ⟨by (try simp only [hl12_5]); (with_reducible repeat (first | apply Kd.R_alloc | apply Kd.R_drewN | apply Kd.R_drew)); exact Kd.R_mono HO322.out (fun _ hk => hk.1.2)⟩, ⟨by (try simp only [hl12_5]); (with_reducible repeat (first | refine blk_drewN ?_ _ | refine blk_drew ?_ | refine blk_alloc ?_ _)); exact BK277.out⟩, ⟨by repeat (first | (with_reducible first | exact HB.out | apply below_alloc | apply pw_below_drewN | apply below_drew1 | refine below_set ?_ GE277.out) | exact HB.out)⟩⟩
 clear H'
 try clear c1
 try clear p1
 try clear q1
 try clear hx1
 try clear c2
 try clear p2
 try clear q2
 try clear hx2
 try clear c3
 try clear p3
 try clear q3
 try clear hx3
 try clear qi3
 try clear c4
 try clear hx4
 try clear hf4
 try clear c5
 try clear hx5
 try clear hf5
 try clear c6
 try clear p6
 try clear q6
 try clear hx6
 try clear hf6
 try clear c7
 try clear c8
 try clear p8
 try clear q8
 try clear hx8
 try clear hf8
 try clear c9
 try clear c10
 try clear p10
 try clear q10
 try clear hx10
 try clear hf10
 try clear c11
 try clear q11
 try clear c12
 try clear c26
 try clear c26b0
 try clear c27
 try clear c27b0
 try clear c28
 try clear c28b0
 try clear p28
 try clear q28
 try clear hx28
 try clear c29
 try clear c29b0
 try clear p29
 try clear q29
 try clear hx29
 try clear c30
 try clear c30b0
 try clear p30
 try clear q30
 try clear hx30
 try clear qi30
 try clear c31
 try clear p31
 try clear q31
 try clear hx31
 try clear qi31
 try clear p32
 try clear q32
 try clear c33
 try clear c33b0
 try clear c34
 try clear c34b0
 try clear c35
 try clear p36
 try clear q36
 try clear c38
 try clear c43
 try clear c45
 try clear hx45
 try clear hf45
 try clear c50
 try clear c52
 try clear hx52
 try clear hf52
 try clear c55
 try clear c55b0
 try clear c55b1
 try clear c56
 try clear c56b0
 try clear c56b1
 try clear c60
 try clear c60b0
 try clear c61
 try clear c61b0
 try clear c62
 try clear c62b0
 try clear c63
 try clear c63b0
 try clear c64
 try clear c64b0
 try clear p64
 try clear c65
 try clear c65b0
 try clear c66
 try clear c66b0
 try clear p67
 try clear q67
 try clear hx67
 try clear hf67
 try clear c73
 try clear c73b0
 try clear c74
 try clear c74b0
 try clear c75
 try clear c75b0
 try clear c77
 try clear c77b0
 try clear c78
 try clear c78b0
 try clear c80
 try clear c81
 try clear c81b0
 try clear c82
 try clear c82b0
 try clear p83
 try clear q83
 try clear hx83
 try clear hf83
 try clear c89
 try clear c89b0
 try clear c89b1
 try clear c90
 try clear c90b0
 try clear c91
 try clear c91b0
 try clear c94
 try clear c95
 try clear c95b0
 try clear c95b1
 try clear c96
 try clear c96b0
 try clear c97
 try clear c97b0
 try clear c100
 try clear c100b0
 try clear c101
 try clear c101b0
 try clear c102
 try clear c102b0
 try clear c103
 try clear c103b0
 try clear c104
 try clear c104b0
 try clear c105
 try clear c105b0
 try clear c105b1
 try clear c106
 try clear c106b0
 try clear c106b1
 try clear c107
 try clear c107b0
 try clear c108
 try clear c108b0
 try clear p109
 try clear q109
 try clear hx109
 try clear hf109
 try clear c110
 try clear c115
 try clear c115b0
 try clear c115b1
 try clear c117
 try clear q117
 try clear c118
 try clear c118b0
 try clear c119
 try clear c119b0
 try clear c120
 try clear c120b0
 try clear c120b1
 try clear hcz39_0
 try clear hcz39_1
 try clear hcz57_0
 try clear hcz57_1
 try clear hcz68_0
 try clear hcz68_1
 try clear hcz71_0
 try clear hcz71_1
 try clear hfz22_0
 try clear hfz22_1
 try clear hfz25_0
 try clear hfz25_1
 try clear hfz39_0
 try clear hfz39_1
 try clear hfz57_0
 try clear hfz57_1
 try clear hfz68_0
 try clear hfz68_1
 try clear hfz71_0
 try clear hfz71_1
 try clear hx109_0
 try clear hx282_0
 try clear hx282_1
 try clear hx284_0
 try clear hx289_0
 try clear hx297_0
 try clear hx299_0
 try clear hx300_0
 try clear hx305_0
 try clear hx306_0
 try clear hx307_0
 try clear hx308_0
 try clear hx309_0
 try clear hx310_0
 try clear hx311_0
 try clear hx319_0
 try clear hx45_0
 try clear hx52_0
 try clear hx67_0
 try clear hx83_0
 try clear p109
 try clear p2
 try clear p28
 try clear p282
 try clear p284
 try clear p289
 try clear p29
 try clear p297
 try clear p299
 try clear p3
 try clear p30
 try clear p300
 try clear p305
 try clear p306
 try clear p307
 try clear p308
 try clear p309
 try clear p310
 try clear p311
 try clear p319
 try clear p32
 try clear p36
 try clear p6
 try clear p64
 try clear p67
 try clear p8
 try clear p83
 try clear q109
 try clear q117
 try clear q2
 try clear q28
 try clear q282
 try clear q284
 try clear q289
 try clear q29
 try clear q297
 try clear q299
 try clear q3
 try clear q30
 try clear q300
 try clear q305
 try clear q306
 try clear q307
 try clear q308
 try clear q309
 try clear q310
 try clear q311
 try clear q319
 try clear q32
 try clear q36
 try clear q6
 try clear q67
 try clear q8
 try clear q83
 obtain ⟨x18_7, x19_7, rfl, HA, HK7, HO_9, HO_12, HO_18, BK277, HB⟩ := hrel
 rcases gk with _ | k7
 · exact absurd HA.out (by simp [walk_Route.l4])
 have H := HA.out
 clear HA
 simp only [walk_Route.l4] at H
 by_cases c123 : x19_7 = a2
 · rw [if_pos c123] at H
   have c123b0 : (x19_7 == a2) = true := beq_iff_eq.mpr c123
   have c123b1 : (x19_7 != a2) = false := bne_eq_false_iff_eq.mpr c123
   clear c123
   obtain rfl := Option.some.inj H
   go_wp2
   go_ret
   exact ⟨_, by first|rfl|(simp [errW_none, errW_some] <;> rfl)|(simp [*, errW_none, errW_some] <;> rfl), by (with_reducible repeat (first|apply Kd.R_alloc|apply Kd.R_drewN|apply Kd.R_drew));exact Kd.R_mono HO_18.out (fun _ hk => trivial), by repeat (first|(with_reducible first|exact HB.out|apply below_alloc|apply pw_below_drewN|apply below_drew1|refine below_set ?_ GE277.out)|exact HB.out)⟩
 rw [if_neg c123] at H
 have c123b0 : (x19_7 == a2) = false := beq_eq_false_iff_ne.mpr c123
 have c123b1 : (x19_7 != a2) = true := bne_iff_ne.mpr c123
 by_cases c124 : 0 ≤ x19_7
 rotate_left
 · rw [if_neg c124] at H
   exact absurd H (by simp)
 rw [if_pos c124] at H
 have c124b0 : decide (0 ≤ x19_7) = true := decide_eq_true c124
 clear c124
 by_cases c125 : x19_7 < (x9_2.length : Int)
 rotate_left
 · rw [if_neg c125] at H
   exact absurd H (by simp)
 rw [if_pos c125] at H
 have c125b0 : decide (x19_7 < (x9_2.length : Int)) = true := decide_eq_true c125
 clear c125
 have H' := Aside0.mk H
 clear H
 obtain ⟨Ao126, co126, eo126⟩ := Kd.S_slice HO_9.out
 subst eo126
 have p323 : 0 ≤ (x19_7 : Int) := of_decide_eq_true (by first | (with_reducible assumption) | assumption)
 have q323 : x19_7 < (x9_2.length : Int) := of_decide_eq_true (by first | (with_reducible assumption) | assumption)
 obtain ⟨ad323, A323_0, c323_0, e323, hx323_0, hl323_0, hi323_0⟩ := at_L5 (Kd.S_reads' HO_9.out).2.2 x19_7 p323 q323
 cases e323
 obtain ⟨ce323, hce323, hMe323, hcc323⟩ := Kd.S_get HO_9.out [] x19_7 p323 (by first | exact q323 | exact of_decide_eq_true (by first | (with_reducible assumption) | assumption) | (have e_ := (Kd.S_reads' HO_9.out).1; omega))
 obtain ⟨ve323_0, rfl, ge323_0⟩ := hMe323
 have hv323_0 := hcc323 0 _ rfl
 rw [Nat.add_zero, show ((Kd.slice 3 (Kd.int .i64))).sz = 1 from rfl, Nat.mul_one] at hv323_0
 replace hv323_0 := Option.some.inj (hv323_0.symm.trans hx323_0)
 rw [hv323_0] at ge323_0
 have HL323_0 := Aside0.mk (show Kd.R (Kd.int .i64) 3 _ _ _ _ (rd_L5 x9_2 x19_7) from ge323_0)
 clear hv323_0 ge323_0
 have HX323_0 := Aside0.mk hx323_0
 clear hcc323 hce323
 have HR323_0 := Aside0.mk hi323_0
 have HC323_0 := Aside0.mk hl323_0
 clear hi323_0 hl323_0
 replace p323 := eq_true p323
 replace q323 := eq_true q323
 go_wp2
 as_aux_lemma =>
 go_loopg [20, 183] k7 (fun kq v20 v183 w' => ∃ (x20_8 : Int) (x183_8 : Int), v20 = .int .i64 x20_8 ∧ v183 = .int .i64 x183_8 ∧ Aside0 (walk_Route.l5 kq a2 x9_2 x12_5 x18_7 x19_7 x20_8 (rd_L5 x9_2 x19_7) ((rd_L5 x9_2 x19_7).length : Int) x183_8 = some r) ∧ Aside0 (kq ≤ k7) ∧ Aside0 (Kd.S (Kd.slice 3 (Kd.int .i64)) 25 w' w.heap.size (fun k_ => some k_ ≠ ((.slice (some ⟨go83, 0, none⟩) x12_5.length co83) : Value).ownBlock ∧ some k_ ≠ (u18 : Value).ownBlock) (.slice (some ad323) x9_2.length co126) x9_2) ∧ Aside0 (Kd.R (Kd.int .i64) 3 w' w.heap.size (fun k_ => some k_ ≠ (u18 : Value).ownBlock) (.slice (some ⟨go83, 0, none⟩) x12_5.length co83) x12_5) ∧ Aside0 (Kd.R (Kd.int .i64) 3 w' w.heap.size (fun k_ => some k_ ≠ ((.slice (some ⟨go83, 0, none⟩) x12_5.length co83) : Value).ownBlock) u18 x18_7) ∧ Aside0 (w'.heap[gb277]? = some (.cells #[.int .i64 a0_0, (.slice A0_1 l0_1.length c0_1)] 24 (0, 0))) ∧ Aside0 (Kd.C (Kd.int .i64) w' A323_0 (rd_L5 x9_2 x19_7).length (rd_L5 x9_2 x19_7)) ∧ Aside0 (Below w.heap.size w w'))
 case atStart => exact ⟨((-1)), (0), (by first | rfl | (simp; done) | (simp [*]; done)), (by first | rfl | (simp; done) | (simp [*]; done)), H', ⟨Nat.le_refl _⟩, ⟨by (try simp only [hl12_5]); (with_reducible repeat (first | apply Kd.S_alloc | apply Kd.S_drewN | apply Kd.S_drew)); exact HO_9.out⟩, ⟨by (try simp only [hl12_5]); (with_reducible repeat (first | apply Kd.R_alloc | apply Kd.R_drewN | apply Kd.R_drew)); exact HO_12.out⟩, ⟨by (try simp only [hl12_5]); (with_reducible repeat (first | apply Kd.R_alloc | apply Kd.R_drewN | apply Kd.R_drew)); exact HO_18.out⟩, ⟨by (try simp only [hl12_5]); (with_reducible repeat (first | refine blk_drewN ?_ _ | refine blk_drew ?_ | refine blk_alloc ?_ _)); exact BK277.out⟩, ⟨by repeat (first | (with_reducible exact HR323_0.out) | (with_reducible refine Kd.C_alloc ?_ _) | (with_reducible refine Kd.C_drewN ?_ _) | (with_reducible refine Kd.C_drew ?_) | exact HR323_0.out)⟩, ⟨by repeat (first | (with_reducible first | exact HB.out | apply below_alloc | apply pw_below_drewN | apply below_drew1 | refine below_set ?_ GE277.out) | exact HB.out)⟩⟩
 clear H'
 try clear c1
 try clear p1
 try clear q1
 try clear hx1
 try clear c2
 try clear p2
 try clear q2
 try clear hx2
 try clear c3
 try clear p3
 try clear q3
 try clear hx3
 try clear qi3
 try clear c4
 try clear hx4
 try clear hf4
 try clear c5
 try clear hx5
 try clear hf5
 try clear c6
 try clear p6
 try clear q6
 try clear hx6
 try clear hf6
 try clear c7
 try clear c8
 try clear p8
 try clear q8
 try clear hx8
 try clear hf8
 try clear c9
 try clear c10
 try clear p10
 try clear q10
 try clear hx10
 try clear hf10
 try clear c11
 try clear q11
 try clear c12
 try clear c26
 try clear c26b0
 try clear c27
 try clear c27b0
 try clear c28
 try clear c28b0
 try clear p28
 try clear q28
 try clear hx28
 try clear c29
 try clear c29b0
 try clear p29
 try clear q29
 try clear hx29
 try clear c30
 try clear c30b0
 try clear p30
 try clear q30
 try clear hx30
 try clear qi30
 try clear c31
 try clear p31
 try clear q31
 try clear hx31
 try clear qi31
 try clear c32
 try clear p32
 try clear q32
 try clear hx32
 try clear c33
 try clear c33b0
 try clear c34
 try clear c34b0
 try clear c35
 try clear p36
 try clear q36
 try clear c38
 try clear c43
 try clear c45
 try clear hx45
 try clear hf45
 try clear c50
 try clear c52
 try clear hx52
 try clear hf52
 try clear c55
 try clear c55b0
 try clear c55b1
 try clear c56
 try clear c56b0
 try clear c56b1
 try clear c60
 try clear c60b0
 try clear c61
 try clear c61b0
 try clear c62
 try clear c62b0
 try clear c63
 try clear c63b0
 try clear c64
 try clear c64b0
 try clear p64
 try clear c65
 try clear c65b0
 try clear c66
 try clear c66b0
 try clear p67
 try clear q67
 try clear hx67
 try clear hf67
 try clear c73
 try clear c73b0
 try clear c74
 try clear c74b0
 try clear c75
 try clear c75b0
 try clear c77
 try clear c77b0
 try clear c78
 try clear c78b0
 try clear c80
 try clear c81
 try clear c81b0
 try clear c82
 try clear c82b0
 try clear p83
 try clear q83
 try clear hx83
 try clear hf83
 try clear c89
 try clear c89b0
 try clear c89b1
 try clear c90
 try clear c90b0
 try clear c91
 try clear c91b0
 try clear c94
 try clear c95
 try clear c95b0
 try clear c95b1
 try clear c96
 try clear c96b0
 try clear c97
 try clear c97b0
 try clear c100
 try clear c100b0
 try clear c101
 try clear c101b0
 try clear c102
 try clear c102b0
 try clear c103
 try clear c103b0
 try clear c104
 try clear c104b0
 try clear c105
 try clear c105b0
 try clear c105b1
 try clear c106
 try clear c106b0
 try clear c106b1
 try clear c107
 try clear c107b0
 try clear c108
 try clear c108b0
 try clear p109
 try clear q109
 try clear hx109
 try clear hf109
 try clear c110
 try clear c115
 try clear c115b0
 try clear c115b1
 try clear c117
 try clear q117
 try clear c118
 try clear c118b0
 try clear c119
 try clear c119b0
 try clear c120
 try clear c120b0
 try clear c120b1
 try clear c123
 try clear c123b0
 try clear c123b1
 try clear c124
 try clear c124b0
 try clear c125
 try clear c125b0
 try clear hcz39_0
 try clear hcz39_1
 try clear hcz57_0
 try clear hcz57_1
 try clear hcz68_0
 try clear hcz68_1
 try clear hcz71_0
 try clear hcz71_1
 try clear hfz22_0
 try clear hfz22_1
 try clear hfz25_0
 try clear hfz25_1
 try clear hfz39_0
 try clear hfz39_1
 try clear hfz57_0
 try clear hfz57_1
 try clear hfz68_0
 try clear hfz68_1
 try clear hfz71_0
 try clear hfz71_1
 try clear hx109_0
 try clear hx282_0
 try clear hx282_1
 try clear hx284_0
 try clear hx289_0
 try clear hx297_0
 try clear hx299_0
 try clear hx300_0
 try clear hx305_0
 try clear hx306_0
 try clear hx307_0
 try clear hx308_0
 try clear hx309_0
 try clear hx310_0
 try clear hx311_0
 try clear hx319_0
 try clear hx323_0
 try clear hx45_0
 try clear hx52_0
 try clear hx67_0
 try clear hx83_0
 try clear p1
 try clear p10
 try clear p109
 try clear p2
 try clear p28
 try clear p282
 try clear p284
 try clear p289
 try clear p29
 try clear p297
 try clear p299
 try clear p3
 try clear p30
 try clear p300
 try clear p305
 try clear p306
 try clear p307
 try clear p308
 try clear p309
 try clear p31
 try clear p310
 try clear p311
 try clear p319
 try clear p32
 try clear p323
 try clear p36
 try clear p6
 try clear p64
 try clear p67
 try clear p8
 try clear p83
 try clear q1
 try clear q10
 try clear q109
 try clear q11
 try clear q117
 try clear q2
 try clear q28
 try clear q282
 try clear q284
 try clear q289
 try clear q29
 try clear q297
 try clear q299
 try clear q3
 try clear q30
 try clear q300
 try clear q305
 try clear q306
 try clear q307
 try clear q308
 try clear q309
 try clear q31
 try clear q310
 try clear q311
 try clear q319
 try clear q32
 try clear q323
 try clear q36
 try clear q6
 try clear q67
 try clear q8
 try clear q83
 obtain ⟨x20_8, x183_8, rfl, rfl, HA, HK8, HO_9, HO_12, HO_18, BK277, HR323_0, HB⟩ := hrel
 rcases gk with _ | k8
 · exact absurd HA.out (by simp [walk_Route.l5])
 have H := HA.out
 clear HA
 simp only [walk_Route.l5] at H
 by_cases c127 : x183_8 < ((rd_L5 x9_2 x19_7).length : Int)
 rotate_left
 · rw [if_neg c127] at H
   have c127b0 : decide (x183_8 < ((rd_L5 x9_2 x19_7).length : Int)) = false := decide_eq_false c127
   clear c127
   by_cases c143 : x18_7.length < 17592186044416
   rotate_left
   · rw [if_neg c143] at H
     exact absurd H (by simp)
   rw [if_pos c143] at H
   have LMc143 := Aside0.mk c143
   clear c143
   obtain ⟨y328, hy328⟩ : ∃ y_ : List Int, y_ = (x18_7 ++ [x20_8]) := ⟨_, rfl⟩
   replace H : (walk_Route.l4 k8 a2 x9_2 x12_5 y328 x20_8) = some r := by first | (rw [hy328]; with_reducible exact H) | (have H2_ := (Option.bind_some _ _).symm.trans H; rw [hy328]; with_reducible exact H2_) | (have H2_ := (Option.bind_some _ _).symm.trans H; with_reducible exact H2_) | with_reducible exact H | (rw [hy328]; exact H) | exact H
   have Ny328 := Aside0.mk hy328
   clear hy328
   have H' := Aside0.mk H
   clear H
   go_wp2_with (first|((with_reducible refine gate_builtin (b := .append) (xs := #[.tmp 174, .tmp 176]) rfl ?_);(try (refine gate_guard (by rfl) ?_;dsimp only));at_builtin;refine Kd.R_append (Kd.int .i64) (w0 := w) w.heap.size rfl (.tmp 174) (.tmp 176) 25 3 (.int .i64 0) 8 rfl Try.underlying25 info3 rfl (by decide) (by omega) u18 x18_7 x20_8 [.int .i64 x20_8] (fun k_ => some k_ ≠ (.slice (some ⟨go83, 0, none⟩) x12_5.length co83 : Value).ownBlock) (fun _ => False) rfl rfl ?aP (fun _ hk => hk.elim) ?aF ?aO ?aB ?aS ?aL ?_;(case aP => exact rfl);(case aB => exact (by repeat (first|(with_reducible first|exact HB.out|apply below_alloc|apply pw_below_drewN|apply below_drew1|refine below_set ?_ GE277.out)|exact HB.out)));(case aF => exact (fun k_ hk => Kd.fresh' (Kd.R_lt (by (with_reducible repeat (first|apply Kd.R_alloc|apply Kd.R_drewN|apply Kd.R_drew));exact HO_12.out)) k_ hk));(case aO => exact (by (with_reducible repeat (first|apply Kd.R_alloc|apply Kd.R_drewN|apply Kd.R_drew));exact HO_18.out));(case aS => exact (below_size (by repeat (first|(with_reducible first|exact HB.out|apply below_alloc|apply pw_below_drewN|apply below_drew1|refine below_set ?_ GE277.out)|exact HB.out))));(case aL => have := LMc143.out;omega);intro v329 w144 ho hb hg hat;rw [← Ny328.out] at ho;have n0_ := Aside0.mk (Kd.S_after (ok := (fun k_ => some k_ ≠ (.slice (some ⟨go83, 0, none⟩) x12_5.length co83 : Value).ownBlock)) (by (with_reducible repeat (first|apply Kd.S_alloc|apply Kd.S_drewN|apply Kd.S_drew));exact HO_9.out) hg hat);have n1_ := Aside0.mk (Kd.R_after (ok := (fun _ => True)) (by (with_reducible repeat (first|apply Kd.R_alloc|apply Kd.R_drewN|apply Kd.R_drew));exact Kd.R_mono HO_12.out (fun _ hk => ⟨trivial, hk⟩)) hg hat);have n2_ := Aside0.mk (blk_grown (g := gb277) (o := .cells #[.int .i64 a0_0, .slice A0_1 l0_1.length c0_1] 24 (0, 0)) (by (with_reducible repeat (first|refine blk_drewN ?_ _|refine blk_drew ?_|refine blk_alloc ?_ _));exact BK277.out) hg (Kd.R_ne HO_18.out BK277.out (by decide)));have n3_ := Aside0.mk (hb);have n4_ := Aside0.mk (ho);clear HO_9;clear HO_12;clear BK277;clear HB;clear HO_18;have HO_9 := n0_;have HO_12 := n1_;have BK277 := n2_;have HB := n3_;have HO330 := n4_;clear n0_ n1_ n2_ n3_ n4_;clear ho hb hg hat))
   go_roundg k8
   case measure => have := HJ4.out; have := HK2.out; have := HK3.out; have := HJ71.out; have := HK5.out; have := HJ87.out; have := HK7.out; have := HK8.out; omega
   exact ⟨(y328), (x20_8), (by first|rfl|(simp;done)|(simp [*];done)), H', ⟨by have := HJ4.out;have := HK2.out;have := HK3.out;have := HJ71.out;have := HK5.out;have := HJ87.out;have := HK7.out;have := HK8.out;omega⟩, ⟨by (try simp only [hl12_5]);(with_reducible repeat (first|apply Kd.S_alloc|apply Kd.S_drewN|apply Kd.S_drew));exact HO_9.out⟩, ⟨by (try simp only [hl12_5]);(with_reducible repeat (first|apply Kd.R_alloc|apply Kd.R_drewN|apply Kd.R_drew));exact Kd.R_mono HO_12.out (fun _ hk => hk.2)⟩, ⟨by (try simp only [hl12_5]);(with_reducible repeat (first|apply Kd.R_alloc|apply Kd.R_drewN|apply Kd.R_drew));exact HO330.out⟩, ⟨by (try simp only [hl12_5]);(with_reducible repeat (first|refine blk_drewN ?_ _|refine blk_drew ?_|refine blk_alloc ?_ _));exact BK277.out⟩, ⟨by repeat (first|(with_reducible first|exact HB.out|apply below_alloc|apply pw_below_drewN|apply below_drew1|refine below_set ?_ GE277.out)|exact HB.out)⟩⟩
 rw [if_pos c127] at H
 have c127b0 : decide (x183_8 < ((rd_L5 x9_2 x19_7).length : Int)) = true := decide_eq_true c127
 clear c127
 by_cases c128 : 0 ≤ x183_8
 rotate_left
 · rw [if_neg c128] at H
   exact absurd H (by simp)
 rw [if_pos c128] at H
 have c128b0 : decide (0 ≤ x183_8) = true := decide_eq_true c128
 clear c128
 by_cases c129 : x183_8 < ((rd_L5 x9_2 x19_7).length : Int)
 rotate_left
 · rw [if_neg c129] at H
   exact absurd H (by simp)
 rw [if_pos c129] at H
 have c129b0 : decide (x183_8 < ((rd_L5 x9_2 x19_7).length : Int)) = true := decide_eq_true c129
 clear c129
 by_cases c130 : 0 ≤ (rd (rd_L5 x9_2 x19_7) x183_8)
 rotate_left
 · rw [if_neg c130] at H
   exact absurd H (by simp)
 rw [if_pos c130] at H
 have c130b0 : decide (0 ≤ (rd (rd_L5 x9_2 x19_7) x183_8)) = true := decide_eq_true c130
 clear c130
 by_cases c131 : (rd (rd_L5 x9_2 x19_7) x183_8) < (x12_5.length : Int)
 rotate_left
 · rw [if_neg c131] at H
   exact absurd H (by simp)
 rw [if_pos c131] at H
 have c131b0 : decide ((rd (rd_L5 x9_2 x19_7) x183_8) < (x12_5.length : Int)) = true := decide_eq_true c131
 clear c131
 by_cases c132 : 0 ≤ x19_7
 rotate_left
 · rw [if_neg c132] at H
   exact absurd H (by simp)
 rw [if_pos c132] at H
 have c132b0 : decide (0 ≤ x19_7) = true := decide_eq_true c132
 clear c132
 by_cases c133 : x19_7 < (x12_5.length : Int)
 rotate_left
 · rw [if_neg c133] at H
   exact absurd H (by simp)
 rw [if_pos c133] at H
 have c133b0 : decide (x19_7 < (x12_5.length : Int)) = true := decide_eq_true c133
 clear c133
 by_cases c134 : (rd x12_5 (rd (rd_L5 x9_2 x19_7) x183_8)) = (wrap64 ((rd x12_5 x19_7) - 1))
 rotate_left
 · rw [if_neg c134] at H
   have c134b0 : ((rd x12_5 (rd (rd_L5 x9_2 x19_7) x183_8)) == (wrap64 ((rd x12_5 x19_7) - 1))) = false := beq_eq_false_iff_ne.mpr c134
   have c134b1 : ((rd x12_5 (rd (rd_L5 x9_2 x19_7) x183_8)) != (wrap64 ((rd x12_5 x19_7) - 1))) = true := bne_iff_ne.mpr c134
   have H' := Aside0.mk H
   clear H
   have p324 : 0 ≤ (x183_8 : Int) := of_decide_eq_true (by first | (with_reducible assumption) | assumption)
   have q324 : x183_8 < ((rd_L5 x9_2 x19_7).length : Int) := of_decide_eq_true (by first | (with_reducible assumption) | assumption)
   obtain ⟨ad324, e324, hx324_0⟩ := Kd.at_int HR323_0.out x183_8 p324 q324
   cases e324
   replace p324 := eq_true p324
   replace q324 := eq_true q324
   try go_wp2
   have n0_ := Aside0.mk (Kd.S_drew HO_9.out)
   have n1_ := Aside0.mk (Kd.R_drew HO_12.out)
   have n2_ := Aside0.mk (Kd.R_drew HO_18.out)
   have n3_ := Aside0.mk (blk_drew BK277.out)
   have n4_ := Aside0.mk (Kd.C_drew HR323_0.out)
   have n5_ := Aside0.mk (below_drew1 HB.out)
   clear HO_9
   clear HO_12
   clear HO_18
   clear BK277
   clear HR323_0
   clear HB
   have HO_9 := n0_
   have HO_12 := n1_
   have HO_18 := n2_
   have BK277 := n3_
   have HR323_0 := n4_
   have HB := n5_
   clear n0_ n1_ n2_ n3_ n4_ n5_
   have p325 : 0 ≤ ((rd (rd_L5 x9_2 x19_7) x183_8) : Int) := of_decide_eq_true (by first | (with_reducible assumption) | assumption)
   have q325 : (rd (rd_L5 x9_2 x19_7) x183_8) < (x12_5.length : Int) := of_decide_eq_true (by first | (with_reducible assumption) | assumption)
   obtain ⟨ad325, e325, hx325_0⟩ := Kd.at_int (Kd.R_reads' HO_12.out).2.2 (rd (rd_L5 x9_2 x19_7) x183_8) p325 q325
   obtain rfl : (⟨go83, 0, none⟩ : Addr) = ad325 := (by injection e325)
   (first | simp only [add_plain] at hx325_0 | simp only [add_at] at hx325_0 | simp only [Addr.add, Nat.zero_add] at hx325_0 | skip)
   replace p325 := eq_true p325
   replace q325 := eq_true q325
   have p326 : 0 ≤ (x19_7 : Int) := of_decide_eq_true (by first | (with_reducible assumption) | assumption)
   have q326 : x19_7 < (x12_5.length : Int) := of_decide_eq_true (by first | (with_reducible assumption) | assumption)
   obtain ⟨ad326, e326, hx326_0⟩ := Kd.at_int (Kd.R_reads' HO_12.out).2.2 x19_7 p326 q326
   obtain rfl : (⟨go83, 0, none⟩ : Addr) = ad326 := (by injection e326)
   (first | simp only [add_plain] at hx326_0 | simp only [add_at] at hx326_0 | simp only [Addr.add, Nat.zero_add] at hx326_0 | skip)
   replace p326 := eq_true p326
   replace q326 := eq_true q326
   as_aux_lemma =>
   refine start_ (n := 26) (S := fun w' => w'.cell? ⟨go83, ((rd (rd_L5 x9_2 x19_7) x183_8)).toNat, none⟩ = some (.int .i64 (rd x12_5 (rd (rd_L5 x9_2 x19_7) x183_8))) ∧ w'.cell? ⟨go83, (x19_7).toNat, none⟩ = some (.int .i64 (rd x12_5 x19_7))) (ds := []) #[Z,Z,Z,Z,Z,Z,Z,Z,Z,Z,Z,Z,Z,Z,Z,Z,Z,Z,Z,Z,Z,Z,Z,Z,Z,Z] (by kernel_rfl) rfl rfl ⟨hx325_0, hx326_0⟩ (fun hHeld => ?_); refine with_tabW walk_Route.tab40 walk_Route.bits40 (fun HT_ HW_ => ?_)
   generalize wr.drew = w142 at HO_9 HO_12 HO_18 BK277 HR323_0 HB hx325_0 hx326_0 hHeld ⊢
   refine pX 0 (some 187) ?_ #[Y,Z,Z,Z,Z,Z,Z,Z,Z,Z,Z,Z,Z,Z,Z,Z,Z,Z,Z,Z,Z,Z,Z,Z,Z,Z] rfl rfl (any_of HT_.out (by kernel_rfl)) (fun _ _ _ h => h) (Or.inl ⟨by rfl, ?_⟩) ?_ ?_ ?_
   rotate_left
   · intro w'
     go_simp
     with_reducible rfl
   rotate_left
   · simp only [Nz]
     rfl
   refine pX 1 (some 188) ?_ #[Y,Y,Z,Z,Z,Z,Z,Z,Z,Z,Z,Z,Z,Z,Z,Z,Z,Z,Z,Z,Z,Z,Z,Z,Z,Z] rfl rfl (any_of HT_.out (by kernel_rfl)) (fun _ _ _ h => h) (Or.inl ⟨by rfl, ?_⟩) ?_ ?_ ?_
   rotate_left
   · intro w'
     go_simp
     with_reducible rfl
   rotate_left
   · simp only [Nz]
     rfl
   refine pX 2 (some 189) ?_ #[Y,Y,Y,Z,Z,Z,Z,Z,Z,Z,Z,Z,Z,Z,Z,Z,Z,Z,Z,Z,Z,Z,Z,Z,Z,Z] rfl rfl (any_of HT_.out (by kernel_rfl)) (fun _ _ _ h => h) (Or.inl ⟨by rfl, ?_⟩) ?_ ?_ ?_
   rotate_left
   · intro w'
     go_simp
     with_reducible rfl
   rotate_left
   · simp only [Nz]
     rfl
   refine pX 4 (some 191) ?_ #[Y,Y,Y,Z,Y,Z,Z,Z,Z,Z,Z,Z,Z,Z,Z,Z,Z,Z,Z,Z,Z,Z,Z,Z,Z,Z] rfl rfl (any_of HT_.out (by kernel_rfl)) (fun _ _ _ h => h) (Or.inl ⟨by rfl, ?_⟩) ?_ ?_ ?_
   rotate_left
   · intro w'
     go_simp
     with_reducible rfl
   rotate_left
   · simp only [Nz]
     rfl
   refine pX 5 (some 192) ?_ #[Y,Y,Y,Z,Y,Y,Z,Z,Z,Z,Z,Z,Z,Z,Z,Z,Z,Z,Z,Z,Z,Z,Z,Z,Z,Z] rfl rfl (any_of HT_.out (by kernel_rfl)) (fun _ _ _ h => h) (Or.inl ⟨by rfl, ?_⟩) ?_ ?_ ?_
   rotate_left
   · intro w'
     go_simp
     with_reducible rfl
   rotate_left
   · simp only [Nz]
     rfl
   refine pX 6 (some 193) ?_ #[Y,Y,Y,Z,Y,Y,Y,Z,Z,Z,Z,Z,Z,Z,Z,Z,Z,Z,Z,Z,Z,Z,Z,Z,Z,Z] rfl rfl (any_of HT_.out (by kernel_rfl)) (fun _ _ _ h => h) (Or.inl ⟨by rfl, ?_⟩) ?_ ?_ ?_
   rotate_left
   · intro w'
     go_simp
     with_reducible rfl
   rotate_left
   · simp only [Nz]
     rfl
   refine tX 3 (some 190) ?_ #[Y,Y,Y,Y,Y,Y,Y,Z,Z,Z,Z,Z,Z,Z,Z,Z,Z,Z,Z,Z,Z,Z,Z,Z,Z,Z] rfl rfl (take_ofW HT_.out HW_.out (by kernel_rfl)) (fun _ _ _ h => h) (Or.inl ⟨by rfl, ?_⟩) hHeld ?_ ?_ ?_
   rotate_left
   · rintro w' ⟨s0, s1⟩
     go_simp
     with_reducible rfl
   rotate_left
   · simp only [Nz]
     rfl
   refine tX 7 (some 194) ?_ #[Y,Y,Y,Y,Y,Y,Y,Y,Z,Z,Z,Z,Z,Z,Z,Z,Z,Z,Z,Z,Z,Z,Z,Z,Z,Z] rfl rfl (take_ofW HT_.out HW_.out (by kernel_rfl)) (fun _ _ _ h => h) (Or.inl ⟨by rfl, ?_⟩) hHeld ?_ ?_ ?_
   rotate_left
   · rintro w' ⟨s0, s1⟩
     go_simp
     with_reducible rfl
   rotate_left
   · simp only [Nz]
     rfl
   refine pX 8 (some 195) ?_ #[Y,Y,Y,Y,Y,Y,Y,Y,Y,Z,Z,Z,Z,Z,Z,Z,Z,Z,Z,Z,Z,Z,Z,Z,Z,Z] rfl rfl (any_of HT_.out (by kernel_rfl)) (fun _ _ _ h => h) (Or.inl ⟨by rfl, ?_⟩) ?_ ?_ ?_
   rotate_left
   · intro w'
     go_simp
     with_reducible rfl
   rotate_left
   · simp only [Nz]
     rfl
   refine pX 9 (some 196) ?_ #[Y,Y,Y,Y,Y,Y,Y,Y,Y,Y,Z,Z,Z,Z,Z,Z,Z,Z,Z,Z,Z,Z,Z,Z,Z,Z] rfl rfl (any_of HT_.out (by kernel_rfl)) (fun _ _ _ h => h) (Or.inl ⟨by rfl, ?_⟩) ?_ ?_ ?_
   rotate_left
   · intro w'
     go_simp
     with_reducible rfl
   rotate_left
   · simp only [Nz]
     rfl
   refine pX 10 (some 197) ?_ #[Y,Y,Y,Y,Y,Y,Y,Y,Y,Y,Y,Z,Z,Z,Z,Z,Z,Z,Z,Z,Z,Z,Z,Z,Z,Z] rfl rfl (any_of HT_.out (by kernel_rfl)) (fun _ _ _ h => h) (Or.inl ⟨by rfl, ?_⟩) ?_ ?_ ?_
   rotate_left
   · intro w'
     go_simp
     with_reducible rfl
   rotate_left
   · simp only [Nz]
     rfl
   refine pure_ (i := 11) (N := some 198) (v := undef) (a' := ?_) #[Y,Y,Y,Y,Y,Y,Y,Y,Y,Y,Y,Y,Z,Z,Z,Z,Z,Z,Z,Z,Z,Z,Z,Z,Z,Z] rfl rfl (any_of HT_.out (by kernel_rfl)) (fun _ _ _ h => h) (Or.inr ⟨by rfl, rfl⟩) ?_ ?_
   rotate_left
   · simp only [Nz]
     rfl
   refine pure_ (i := 12) (N := some 199) (v := undef) (a' := ?_) #[Y,Y,Y,Y,Y,Y,Y,Y,Y,Y,Y,Y,Y,Z,Z,Z,Z,Z,Z,Z,Z,Z,Z,Z,Z,Z] rfl rfl (any_of HT_.out (by kernel_rfl)) (fun _ _ _ h => h) (Or.inr ⟨by rfl, rfl⟩) ?_ ?_
   rotate_left
   · simp only [Nz]
     rfl
   refine pure_ (i := 13) (N := some 200) (v := undef) (a' := ?_) #[Y,Y,Y,Y,Y,Y,Y,Y,Y,Y,Y,Y,Y,Y,Z,Z,Z,Z,Z,Z,Z,Z,Z,Z,Z,Z] rfl rfl (any_of HT_.out (by kernel_rfl)) (fun _ _ _ h => h) (Or.inr ⟨by rfl, rfl⟩) ?_ ?_
   rotate_left
   · simp only [Nz]
     rfl
   refine pure_ (i := 14) (N := some 201) (v := undef) (a' := ?_) #[Y,Y,Y,Y,Y,Y,Y,Y,Y,Y,Y,Y,Y,Y,Y,Z,Z,Z,Z,Z,Z,Z,Z,Z,Z,Z] rfl rfl (any_of HT_.out (by kernel_rfl)) (fun _ _ _ h => h) (Or.inr ⟨by rfl, rfl⟩) ?_ ?_
   rotate_left
   · simp only [Nz]
     rfl
   refine pure_ (i := 15) (N := some 202) (v := undef) (a' := ?_) #[Y,Y,Y,Y,Y,Y,Y,Y,Y,Y,Y,Y,Y,Y,Y,Y,Z,Z,Z,Z,Z,Z,Z,Z,Z,Z] rfl rfl (any_of HT_.out (by kernel_rfl)) (fun _ _ _ h => h) (Or.inr ⟨by rfl, rfl⟩) ?_ ?_
   rotate_left
   · simp only [Nz]
     rfl
   refine pX 16 (some 203) ?_ #[Y,Y,Y,Y,Y,Y,Y,Y,Y,Y,Y,Y,Y,Y,Y,Y,Y,Z,Z,Z,Z,Z,Z,Z,Z,Z] rfl rfl (any_of HT_.out (by kernel_rfl)) (fun _ _ _ h => h) (Or.inl ⟨by rfl, ?_⟩) ?_ ?_ ?_
   rotate_left
   · intro w'
     go_simp
     with_reducible rfl
   rotate_left
   · simp only [Nz]
     rfl
   refine pX 17 (some 204) ?_ #[Y,Y,Y,Y,Y,Y,Y,Y,Y,Y,Y,Y,Y,Y,Y,Y,Y,Y,Z,Z,Z,Z,Z,Z,Z,Z] rfl rfl (any_of HT_.out (by kernel_rfl)) (fun _ _ _ h => h) (Or.inl ⟨by rfl, ?_⟩) ?_ ?_ ?_
   rotate_left
   · intro w'
     go_simp
     with_reducible rfl
   rotate_left
   · simp only [Nz]
     rfl
   refine pure_ (i := 18) (N := some 205) (v := undef) (a' := ?_) #[Y,Y,Y,Y,Y,Y,Y,Y,Y,Y,Y,Y,Y,Y,Y,Y,Y,Y,Y,Z,Z,Z,Z,Z,Z,Z] rfl rfl (any_of HT_.out (by kernel_rfl)) (fun _ _ _ h => h) (Or.inr ⟨by rfl, rfl⟩) ?_ ?_
   rotate_left
   · simp only [Nz]
     rfl
   refine pure_ (i := 19) (N := some 206) (v := undef) (a' := ?_) #[Y,Y,Y,Y,Y,Y,Y,Y,Y,Y,Y,Y,Y,Y,Y,Y,Y,Y,Y,Y,Z,Z,Z,Z,Z,Z] rfl rfl (any_of HT_.out (by kernel_rfl)) (fun _ _ _ h => h) (Or.inr ⟨by rfl, rfl⟩) ?_ ?_
   rotate_left
   · simp only [Nz]
     rfl
   refine pure_ (i := 20) (N := some 207) (v := undef) (a' := ?_) #[Y,Y,Y,Y,Y,Y,Y,Y,Y,Y,Y,Y,Y,Y,Y,Y,Y,Y,Y,Y,Y,Z,Z,Z,Z,Z] rfl rfl (any_of HT_.out (by kernel_rfl)) (fun _ _ _ h => h) (Or.inr ⟨by rfl, rfl⟩) ?_ ?_
   rotate_left
   · simp only [Nz]
     rfl
   refine pure_ (i := 21) (N := some 208) (v := undef) (a' := ?_) #[Y,Y,Y,Y,Y,Y,Y,Y,Y,Y,Y,Y,Y,Y,Y,Y,Y,Y,Y,Y,Y,Y,Z,Z,Z,Z] rfl rfl (any_of HT_.out (by kernel_rfl)) (fun _ _ _ h => h) (Or.inr ⟨by rfl, rfl⟩) ?_ ?_
   rotate_left
   · simp only [Nz]
     rfl
   refine pure_ (i := 22) (N := some 209) (v := undef) (a' := ?_) #[Y,Y,Y,Y,Y,Y,Y,Y,Y,Y,Y,Y,Y,Y,Y,Y,Y,Y,Y,Y,Y,Y,Y,Z,Z,Z] rfl rfl (any_of HT_.out (by kernel_rfl)) (fun _ _ _ h => h) (Or.inr ⟨by rfl, rfl⟩) ?_ ?_
   rotate_left
   · simp only [Nz]
     rfl
   refine pure_ (i := 23) (N := some 210) (v := undef) (a' := ?_) #[Y,Y,Y,Y,Y,Y,Y,Y,Y,Y,Y,Y,Y,Y,Y,Y,Y,Y,Y,Y,Y,Y,Y,Y,Z,Z] rfl rfl (any_of HT_.out (by kernel_rfl)) (fun _ _ _ h => h) (Or.inr ⟨by rfl, rfl⟩) ?_ ?_
   rotate_left
   · simp only [Nz]
     rfl
   refine pure_ (i := 24) (N := some 211) (v := undef) (a' := ?_) #[Y,Y,Y,Y,Y,Y,Y,Y,Y,Y,Y,Y,Y,Y,Y,Y,Y,Y,Y,Y,Y,Y,Y,Y,Y,Z] rfl rfl (any_of HT_.out (by kernel_rfl)) (fun _ _ _ h => h) (Or.inr ⟨by rfl, rfl⟩) ?_ ?_
   rotate_left
   · simp only [Nz]
     rfl
   refine pX 25 (some 212) ?_ #[Y,Y,Y,Y,Y,Y,Y,Y,Y,Y,Y,Y,Y,Y,Y,Y,Y,Y,Y,Y,Y,Y,Y,Y,Y,Y] rfl rfl (any_of HT_.out (by kernel_rfl)) (fun _ _ _ h => h) (Or.inl ⟨by rfl, ?_⟩) ?_ ?_ ?_
   rotate_left
   · intro w'
     go_simp
     with_reducible rfl
   rotate_left
   · simp only [Nz]
     rfl
   refine done_ (done_of HT_.out (by kernel_rfl)) ?_
   try go_wp2
   go_roundg k8
   case measure => have := HJ4.out; have := HK2.out; have := HK3.out; have := HJ71.out; have := HK5.out; have := HJ87.out; have := HK7.out; have := HK8.out; omega
   exact ⟨(x20_8), (wrap64 (x183_8 + 1)), (by first|rfl|(simp;done)|(simp [*];done)), (by first|rfl|(simp;done)|(simp [*];done)), H', ⟨by have := HJ4.out;have := HK2.out;have := HK3.out;have := HJ71.out;have := HK5.out;have := HJ87.out;have := HK7.out;have := HK8.out;omega⟩, ⟨by (try simp only [hl12_5]);(with_reducible repeat (first|apply Kd.S_alloc|apply Kd.S_drewN|apply Kd.S_drew));exact HO_9.out⟩, ⟨by (try simp only [hl12_5]);(with_reducible repeat (first|apply Kd.R_alloc|apply Kd.R_drewN|apply Kd.R_drew));exact HO_12.out⟩, ⟨by (try simp only [hl12_5]);(with_reducible repeat (first|apply Kd.R_alloc|apply Kd.R_drewN|apply Kd.R_drew));exact HO_18.out⟩, ⟨by (try simp only [hl12_5]);(with_reducible repeat (first|refine blk_drewN ?_ _|refine blk_drew ?_|refine blk_alloc ?_ _));exact BK277.out⟩, ⟨by repeat (first|(with_reducible exact HR323_0.out)|(with_reducible refine Kd.C_alloc ?_ _)|(with_reducible refine Kd.C_drewN ?_ _)|(with_reducible refine Kd.C_drew ?_)|exact HR323_0.out)⟩, ⟨by repeat (first|(with_reducible first|exact HB.out|apply below_alloc|apply pw_below_drewN|apply below_drew1|refine below_set ?_ GE277.out)|exact HB.out)⟩⟩
 rw [if_pos c134] at H
 have c134b0 : ((rd x12_5 (rd (rd_L5 x9_2 x19_7) x183_8)) == (wrap64 ((rd x12_5 x19_7) - 1))) = true := beq_iff_eq.mpr c134
 have c134b1 : ((rd x12_5 (rd (rd_L5 x9_2 x19_7) x183_8)) != (wrap64 ((rd x12_5 x19_7) - 1))) = false := bne_eq_false_iff_eq.mpr c134
 clear c134
 by_cases c135 : (rd x12_5 (rd (rd_L5 x9_2 x19_7) x183_8)) > 0
 rotate_left
 · rw [if_neg c135] at H
   have c135b0 : decide (0 < (rd x12_5 (rd (rd_L5 x9_2 x19_7) x183_8))) = false := decide_eq_false c135
   clear c135
   have H' := Aside0.mk H
   clear H
   have p324 : 0 ≤ (x183_8 : Int) := of_decide_eq_true (by first | (with_reducible assumption) | assumption)
   have q324 : x183_8 < ((rd_L5 x9_2 x19_7).length : Int) := of_decide_eq_true (by first | (with_reducible assumption) | assumption)
   obtain ⟨ad324, e324, hx324_0⟩ := Kd.at_int HR323_0.out x183_8 p324 q324
   cases e324
   replace p324 := eq_true p324
   replace q324 := eq_true q324
   try go_wp2
   have n0_ := Aside0.mk (Kd.S_drew HO_9.out)
   have n1_ := Aside0.mk (Kd.R_drew HO_12.out)
   have n2_ := Aside0.mk (Kd.R_drew HO_18.out)
   have n3_ := Aside0.mk (blk_drew BK277.out)
   have n4_ := Aside0.mk (Kd.C_drew HR323_0.out)
   have n5_ := Aside0.mk (below_drew1 HB.out)
   clear HO_9
   clear HO_12
   clear HO_18
   clear BK277
   clear HR323_0
   clear HB
   have HO_9 := n0_
   have HO_12 := n1_
   have HO_18 := n2_
   have BK277 := n3_
   have HR323_0 := n4_
   have HB := n5_
   clear n0_ n1_ n2_ n3_ n4_ n5_
   have p325 : 0 ≤ ((rd (rd_L5 x9_2 x19_7) x183_8) : Int) := of_decide_eq_true (by first | (with_reducible assumption) | assumption)
   have q325 : (rd (rd_L5 x9_2 x19_7) x183_8) < (x12_5.length : Int) := of_decide_eq_true (by first | (with_reducible assumption) | assumption)
   obtain ⟨ad325, e325, hx325_0⟩ := Kd.at_int (Kd.R_reads' HO_12.out).2.2 (rd (rd_L5 x9_2 x19_7) x183_8) p325 q325
   obtain rfl : (⟨go83, 0, none⟩ : Addr) = ad325 := (by injection e325)
   (first | simp only [add_plain] at hx325_0 | simp only [add_at] at hx325_0 | simp only [Addr.add, Nat.zero_add] at hx325_0 | skip)
   replace p325 := eq_true p325
   replace q325 := eq_true q325
   have p326 : 0 ≤ (x19_7 : Int) := of_decide_eq_true (by first | (with_reducible assumption) | assumption)
   have q326 : x19_7 < (x12_5.length : Int) := of_decide_eq_true (by first | (with_reducible assumption) | assumption)
   obtain ⟨ad326, e326, hx326_0⟩ := Kd.at_int (Kd.R_reads' HO_12.out).2.2 x19_7 p326 q326
   obtain rfl : (⟨go83, 0, none⟩ : Addr) = ad326 := (by injection e326)
   (first | simp only [add_plain] at hx326_0 | simp only [add_at] at hx326_0 | simp only [Addr.add, Nat.zero_add] at hx326_0 | skip)
   replace p326 := eq_true p326
   replace q326 := eq_true q326
   have p327 : 0 ≤ ((rd (rd_L5 x9_2 x19_7) x183_8) : Int) := of_decide_eq_true (by first | (with_reducible assumption) | assumption)
   have q327 : (rd (rd_L5 x9_2 x19_7) x183_8) < (x12_5.length : Int) := of_decide_eq_true (by first | (with_reducible assumption) | assumption)
   obtain ⟨ad327, e327, hx327_0⟩ := Kd.at_int (Kd.R_reads' HO_12.out).2.2 (rd (rd_L5 x9_2 x19_7) x183_8) p327 q327
   obtain rfl : (⟨go83, 0, none⟩ : Addr) = ad327 := (by injection e327)
   (first | simp only [add_plain] at hx327_0 | simp only [add_at] at hx327_0 | simp only [Addr.add, Nat.zero_add] at hx327_0 | skip)
   replace p327 := eq_true p327
   replace q327 := eq_true q327
   as_aux_lemma =>
   refine start_ (n := 26) (S := fun w' => w'.cell? ⟨go83, ((rd (rd_L5 x9_2 x19_7) x183_8)).toNat, none⟩ = some (.int .i64 (rd x12_5 (rd (rd_L5 x9_2 x19_7) x183_8))) ∧ w'.cell? ⟨go83, (x19_7).toNat, none⟩ = some (.int .i64 (rd x12_5 x19_7)) ∧ w'.cell? ⟨go83, ((rd (rd_L5 x9_2 x19_7) x183_8)).toNat, none⟩ = some (.int .i64 (rd x12_5 (rd (rd_L5 x9_2 x19_7) x183_8)))) (ds := []) #[Z,Z,Z,Z,Z,Z,Z,Z,Z,Z,Z,Z,Z,Z,Z,Z,Z,Z,Z,Z,Z,Z,Z,Z,Z,Z] (by kernel_rfl) rfl rfl ⟨hx325_0, hx326_0, hx327_0⟩ (fun hHeld => ?_); refine with_tabW walk_Route.tab40 walk_Route.bits40 (fun HT_ HW_ => ?_)
   generalize wr.drew = w141 at HO_9 HO_12 HO_18 BK277 HR323_0 HB hx325_0 hx326_0 hx327_0 hHeld ⊢
   refine pX 0 (some 187) ?_ #[Y,Z,Z,Z,Z,Z,Z,Z,Z,Z,Z,Z,Z,Z,Z,Z,Z,Z,Z,Z,Z,Z,Z,Z,Z,Z] rfl rfl (any_of HT_.out (by kernel_rfl)) (fun _ _ _ h => h) (Or.inl ⟨by rfl, ?_⟩) ?_ ?_ ?_
   rotate_left
   · intro w'
     go_simp
     with_reducible rfl
   rotate_left
   · simp only [Nz]
     rfl
   refine pX 1 (some 188) ?_ #[Y,Y,Z,Z,Z,Z,Z,Z,Z,Z,Z,Z,Z,Z,Z,Z,Z,Z,Z,Z,Z,Z,Z,Z,Z,Z] rfl rfl (any_of HT_.out (by kernel_rfl)) (fun _ _ _ h => h) (Or.inl ⟨by rfl, ?_⟩) ?_ ?_ ?_
   rotate_left
   · intro w'
     go_simp
     with_reducible rfl
   rotate_left
   · simp only [Nz]
     rfl
   refine pX 2 (some 189) ?_ #[Y,Y,Y,Z,Z,Z,Z,Z,Z,Z,Z,Z,Z,Z,Z,Z,Z,Z,Z,Z,Z,Z,Z,Z,Z,Z] rfl rfl (any_of HT_.out (by kernel_rfl)) (fun _ _ _ h => h) (Or.inl ⟨by rfl, ?_⟩) ?_ ?_ ?_
   rotate_left
   · intro w'
     go_simp
     with_reducible rfl
   rotate_left
   · simp only [Nz]
     rfl
   refine pX 4 (some 191) ?_ #[Y,Y,Y,Z,Y,Z,Z,Z,Z,Z,Z,Z,Z,Z,Z,Z,Z,Z,Z,Z,Z,Z,Z,Z,Z,Z] rfl rfl (any_of HT_.out (by kernel_rfl)) (fun _ _ _ h => h) (Or.inl ⟨by rfl, ?_⟩) ?_ ?_ ?_
   rotate_left
   · intro w'
     go_simp
     with_reducible rfl
   rotate_left
   · simp only [Nz]
     rfl
   refine pX 5 (some 192) ?_ #[Y,Y,Y,Z,Y,Y,Z,Z,Z,Z,Z,Z,Z,Z,Z,Z,Z,Z,Z,Z,Z,Z,Z,Z,Z,Z] rfl rfl (any_of HT_.out (by kernel_rfl)) (fun _ _ _ h => h) (Or.inl ⟨by rfl, ?_⟩) ?_ ?_ ?_
   rotate_left
   · intro w'
     go_simp
     with_reducible rfl
   rotate_left
   · simp only [Nz]
     rfl
   refine pX 6 (some 193) ?_ #[Y,Y,Y,Z,Y,Y,Y,Z,Z,Z,Z,Z,Z,Z,Z,Z,Z,Z,Z,Z,Z,Z,Z,Z,Z,Z] rfl rfl (any_of HT_.out (by kernel_rfl)) (fun _ _ _ h => h) (Or.inl ⟨by rfl, ?_⟩) ?_ ?_ ?_
   rotate_left
   · intro w'
     go_simp
     with_reducible rfl
   rotate_left
   · simp only [Nz]
     rfl
   refine tX 3 (some 190) ?_ #[Y,Y,Y,Y,Y,Y,Y,Z,Z,Z,Z,Z,Z,Z,Z,Z,Z,Z,Z,Z,Z,Z,Z,Z,Z,Z] rfl rfl (take_ofW HT_.out HW_.out (by kernel_rfl)) (fun _ _ _ h => h) (Or.inl ⟨by rfl, ?_⟩) hHeld ?_ ?_ ?_
   rotate_left
   · rintro w' ⟨s0, s1, s2⟩
     go_simp
     with_reducible rfl
   rotate_left
   · simp only [Nz]
     rfl
   refine tX 7 (some 194) ?_ #[Y,Y,Y,Y,Y,Y,Y,Y,Z,Z,Z,Z,Z,Z,Z,Z,Z,Z,Z,Z,Z,Z,Z,Z,Z,Z] rfl rfl (take_ofW HT_.out HW_.out (by kernel_rfl)) (fun _ _ _ h => h) (Or.inl ⟨by rfl, ?_⟩) hHeld ?_ ?_ ?_
   rotate_left
   · rintro w' ⟨s0, s1, s2⟩
     go_simp
     with_reducible rfl
   rotate_left
   · simp only [Nz]
     rfl
   refine pX 8 (some 195) ?_ #[Y,Y,Y,Y,Y,Y,Y,Y,Y,Z,Z,Z,Z,Z,Z,Z,Z,Z,Z,Z,Z,Z,Z,Z,Z,Z] rfl rfl (any_of HT_.out (by kernel_rfl)) (fun _ _ _ h => h) (Or.inl ⟨by rfl, ?_⟩) ?_ ?_ ?_
   rotate_left
   · intro w'
     go_simp
     with_reducible rfl
   rotate_left
   · simp only [Nz]
     rfl
   refine pX 9 (some 196) ?_ #[Y,Y,Y,Y,Y,Y,Y,Y,Y,Y,Z,Z,Z,Z,Z,Z,Z,Z,Z,Z,Z,Z,Z,Z,Z,Z] rfl rfl (any_of HT_.out (by kernel_rfl)) (fun _ _ _ h => h) (Or.inl ⟨by rfl, ?_⟩) ?_ ?_ ?_
   rotate_left
   · intro w'
     go_simp
     with_reducible rfl
   rotate_left
   · simp only [Nz]
     rfl
   refine pX 10 (some 197) ?_ #[Y,Y,Y,Y,Y,Y,Y,Y,Y,Y,Y,Z,Z,Z,Z,Z,Z,Z,Z,Z,Z,Z,Z,Z,Z,Z] rfl rfl (any_of HT_.out (by kernel_rfl)) (fun _ _ _ h => h) (Or.inl ⟨by rfl, ?_⟩) ?_ ?_ ?_
   rotate_left
   · intro w'
     go_simp
     with_reducible rfl
   rotate_left
   · simp only [Nz]
     rfl
   refine pX 11 (some 198) ?_ #[Y,Y,Y,Y,Y,Y,Y,Y,Y,Y,Y,Y,Z,Z,Z,Z,Z,Z,Z,Z,Z,Z,Z,Z,Z,Z] rfl rfl (any_of HT_.out (by kernel_rfl)) (fun _ _ _ h => h) (Or.inl ⟨by rfl, ?_⟩) ?_ ?_ ?_
   rotate_left
   · intro w'
     go_simp
     with_reducible rfl
   rotate_left
   · simp only [Nz]
     rfl
   refine pX 12 (some 199) ?_ #[Y,Y,Y,Y,Y,Y,Y,Y,Y,Y,Y,Y,Y,Z,Z,Z,Z,Z,Z,Z,Z,Z,Z,Z,Z,Z] rfl rfl (any_of HT_.out (by kernel_rfl)) (fun _ _ _ h => h) (Or.inl ⟨by rfl, ?_⟩) ?_ ?_ ?_
   rotate_left
   · intro w'
     go_simp
     with_reducible rfl
   rotate_left
   · simp only [Nz]
     rfl
   refine pX 13 (some 200) ?_ #[Y,Y,Y,Y,Y,Y,Y,Y,Y,Y,Y,Y,Y,Y,Z,Z,Z,Z,Z,Z,Z,Z,Z,Z,Z,Z] rfl rfl (any_of HT_.out (by kernel_rfl)) (fun _ _ _ h => h) (Or.inl ⟨by rfl, ?_⟩) ?_ ?_ ?_
   rotate_left
   · intro w'
     go_simp
     with_reducible rfl
   rotate_left
   · simp only [Nz]
     rfl
   refine tX 14 (some 201) ?_ #[Y,Y,Y,Y,Y,Y,Y,Y,Y,Y,Y,Y,Y,Y,Y,Z,Z,Z,Z,Z,Z,Z,Z,Z,Z,Z] rfl rfl (take_ofW HT_.out HW_.out (by kernel_rfl)) (fun _ _ _ h => h) (Or.inl ⟨by rfl, ?_⟩) hHeld ?_ ?_ ?_
   rotate_left
   · rintro w' ⟨s0, s1, s2⟩
     go_simp
     with_reducible rfl
   rotate_left
   · simp only [Nz]
     rfl
   refine pX 15 (some 202) ?_ #[Y,Y,Y,Y,Y,Y,Y,Y,Y,Y,Y,Y,Y,Y,Y,Y,Z,Z,Z,Z,Z,Z,Z,Z,Z,Z] rfl rfl (any_of HT_.out (by kernel_rfl)) (fun _ _ _ h => h) (Or.inl ⟨by rfl, ?_⟩) ?_ ?_ ?_
   rotate_left
   · intro w'
     go_simp
     with_reducible rfl
   rotate_left
   · simp only [Nz]
     rfl
   refine pX 16 (some 203) ?_ #[Y,Y,Y,Y,Y,Y,Y,Y,Y,Y,Y,Y,Y,Y,Y,Y,Y,Z,Z,Z,Z,Z,Z,Z,Z,Z] rfl rfl (any_of HT_.out (by kernel_rfl)) (fun _ _ _ h => h) (Or.inl ⟨by rfl, ?_⟩) ?_ ?_ ?_
   rotate_left
   · intro w'
     go_simp
     with_reducible rfl
   rotate_left
   · simp only [Nz]
     rfl
   refine pX 17 (some 204) ?_ #[Y,Y,Y,Y,Y,Y,Y,Y,Y,Y,Y,Y,Y,Y,Y,Y,Y,Y,Z,Z,Z,Z,Z,Z,Z,Z] rfl rfl (any_of HT_.out (by kernel_rfl)) (fun _ _ _ h => h) (Or.inl ⟨by rfl, ?_⟩) ?_ ?_ ?_
   rotate_left
   · intro w'
     go_simp
     with_reducible rfl
   rotate_left
   · simp only [Nz]
     rfl
   refine pure_ (i := 18) (N := some 205) (v := undef) (a' := ?_) #[Y,Y,Y,Y,Y,Y,Y,Y,Y,Y,Y,Y,Y,Y,Y,Y,Y,Y,Y,Z,Z,Z,Z,Z,Z,Z] rfl rfl (any_of HT_.out (by kernel_rfl)) (fun _ _ _ h => h) (Or.inr ⟨by rfl, rfl⟩) ?_ ?_
   rotate_left
   · simp only [Nz]
     rfl
   refine pure_ (i := 19) (N := some 206) (v := undef) (a' := ?_) #[Y,Y,Y,Y,Y,Y,Y,Y,Y,Y,Y,Y,Y,Y,Y,Y,Y,Y,Y,Y,Z,Z,Z,Z,Z,Z] rfl rfl (any_of HT_.out (by kernel_rfl)) (fun _ _ _ h => h) (Or.inr ⟨by rfl, rfl⟩) ?_ ?_
   rotate_left
   · simp only [Nz]
     rfl
   refine pure_ (i := 20) (N := some 207) (v := undef) (a' := ?_) #[Y,Y,Y,Y,Y,Y,Y,Y,Y,Y,Y,Y,Y,Y,Y,Y,Y,Y,Y,Y,Y,Z,Z,Z,Z,Z] rfl rfl (any_of HT_.out (by kernel_rfl)) (fun _ _ _ h => h) (Or.inr ⟨by rfl, rfl⟩) ?_ ?_
   rotate_left
   · simp only [Nz]
     rfl
   refine pure_ (i := 21) (N := some 208) (v := undef) (a' := ?_) #[Y,Y,Y,Y,Y,Y,Y,Y,Y,Y,Y,Y,Y,Y,Y,Y,Y,Y,Y,Y,Y,Y,Z,Z,Z,Z] rfl rfl (any_of HT_.out (by kernel_rfl)) (fun _ _ _ h => h) (Or.inr ⟨by rfl, rfl⟩) ?_ ?_
   rotate_left
   · simp only [Nz]
     rfl
   refine pure_ (i := 22) (N := some 209) (v := undef) (a' := ?_) #[Y,Y,Y,Y,Y,Y,Y,Y,Y,Y,Y,Y,Y,Y,Y,Y,Y,Y,Y,Y,Y,Y,Y,Z,Z,Z] rfl rfl (any_of HT_.out (by kernel_rfl)) (fun _ _ _ h => h) (Or.inr ⟨by rfl, rfl⟩) ?_ ?_
   rotate_left
   · simp only [Nz]
     rfl
   refine pure_ (i := 23) (N := some 210) (v := undef) (a' := ?_) #[Y,Y,Y,Y,Y,Y,Y,Y,Y,Y,Y,Y,Y,Y,Y,Y,Y,Y,Y,Y,Y,Y,Y,Y,Z,Z] rfl rfl (any_of HT_.out (by kernel_rfl)) (fun _ _ _ h => h) (Or.inr ⟨by rfl, rfl⟩) ?_ ?_
   rotate_left
   · simp only [Nz]
     rfl
   refine pure_ (i := 24) (N := some 211) (v := undef) (a' := ?_) #[Y,Y,Y,Y,Y,Y,Y,Y,Y,Y,Y,Y,Y,Y,Y,Y,Y,Y,Y,Y,Y,Y,Y,Y,Y,Z] rfl rfl (any_of HT_.out (by kernel_rfl)) (fun _ _ _ h => h) (Or.inr ⟨by rfl, rfl⟩) ?_ ?_
   rotate_left
   · simp only [Nz]
     rfl
   refine pX 25 (some 212) ?_ #[Y,Y,Y,Y,Y,Y,Y,Y,Y,Y,Y,Y,Y,Y,Y,Y,Y,Y,Y,Y,Y,Y,Y,Y,Y,Y] rfl rfl (any_of HT_.out (by kernel_rfl)) (fun _ _ _ h => h) (Or.inl ⟨by rfl, ?_⟩) ?_ ?_ ?_
   rotate_left
   · intro w'
     go_simp
     with_reducible rfl
   rotate_left
   · simp only [Nz]
     rfl
   refine done_ (done_of HT_.out (by kernel_rfl)) ?_
   try go_wp2
   go_roundg k8
   case measure => have := HJ4.out; have := HK2.out; have := HK3.out; have := HJ71.out; have := HK5.out; have := HJ87.out; have := HK7.out; have := HK8.out; omega
   exact ⟨(x20_8), (wrap64 (x183_8 + 1)), (by first|rfl|(simp;done)|(simp [*];done)), (by first|rfl|(simp;done)|(simp [*];done)), H', ⟨by have := HJ4.out;have := HK2.out;have := HK3.out;have := HJ71.out;have := HK5.out;have := HJ87.out;have := HK7.out;have := HK8.out;omega⟩, ⟨by (try simp only [hl12_5]);(with_reducible repeat (first|apply Kd.S_alloc|apply Kd.S_drewN|apply Kd.S_drew));exact HO_9.out⟩, ⟨by (try simp only [hl12_5]);(with_reducible repeat (first|apply Kd.R_alloc|apply Kd.R_drewN|apply Kd.R_drew));exact HO_12.out⟩, ⟨by (try simp only [hl12_5]);(with_reducible repeat (first|apply Kd.R_alloc|apply Kd.R_drewN|apply Kd.R_drew));exact HO_18.out⟩, ⟨by (try simp only [hl12_5]);(with_reducible repeat (first|refine blk_drewN ?_ _|refine blk_drew ?_|refine blk_alloc ?_ _));exact BK277.out⟩, ⟨by repeat (first|(with_reducible exact HR323_0.out)|(with_reducible refine Kd.C_alloc ?_ _)|(with_reducible refine Kd.C_drewN ?_ _)|(with_reducible refine Kd.C_drew ?_)|exact HR323_0.out)⟩, ⟨by repeat (first|(with_reducible first|exact HB.out|apply below_alloc|apply pw_below_drewN|apply below_drew1|refine below_set ?_ GE277.out)|exact HB.out)⟩⟩
 rw [if_pos c135] at H
 have c135b0 : decide (0 < (rd x12_5 (rd (rd_L5 x9_2 x19_7) x183_8))) = true := decide_eq_true c135
 clear c135
 by_cases c136 : x20_8 < 0
 · rw [if_pos c136] at H
   have c136b0 : decide (x20_8 < 0) = true := decide_eq_true c136
   clear c136
   have H' := Aside0.mk H
   clear H
   have p324 : 0 ≤ (x183_8 : Int) := of_decide_eq_true (by first | (with_reducible assumption) | assumption)
   have q324 : x183_8 < ((rd_L5 x9_2 x19_7).length : Int) := of_decide_eq_true (by first | (with_reducible assumption) | assumption)
   obtain ⟨ad324, e324, hx324_0⟩ := Kd.at_int HR323_0.out x183_8 p324 q324
   cases e324
   replace p324 := eq_true p324
   replace q324 := eq_true q324
   try go_wp2
   have n0_ := Aside0.mk (Kd.S_drew HO_9.out)
   have n1_ := Aside0.mk (Kd.R_drew HO_12.out)
   have n2_ := Aside0.mk (Kd.R_drew HO_18.out)
   have n3_ := Aside0.mk (blk_drew BK277.out)
   have n4_ := Aside0.mk (Kd.C_drew HR323_0.out)
   have n5_ := Aside0.mk (below_drew1 HB.out)
   clear HO_9
   clear HO_12
   clear HO_18
   clear BK277
   clear HR323_0
   clear HB
   have HO_9 := n0_
   have HO_12 := n1_
   have HO_18 := n2_
   have BK277 := n3_
   have HR323_0 := n4_
   have HB := n5_
   clear n0_ n1_ n2_ n3_ n4_ n5_
   have p325 : 0 ≤ ((rd (rd_L5 x9_2 x19_7) x183_8) : Int) := of_decide_eq_true (by first | (with_reducible assumption) | assumption)
   have q325 : (rd (rd_L5 x9_2 x19_7) x183_8) < (x12_5.length : Int) := of_decide_eq_true (by first | (with_reducible assumption) | assumption)
   obtain ⟨ad325, e325, hx325_0⟩ := Kd.at_int (Kd.R_reads' HO_12.out).2.2 (rd (rd_L5 x9_2 x19_7) x183_8) p325 q325
   obtain rfl : (⟨go83, 0, none⟩ : Addr) = ad325 := (by injection e325)
   (first | simp only [add_plain] at hx325_0 | simp only [add_at] at hx325_0 | simp only [Addr.add, Nat.zero_add] at hx325_0 | skip)
   replace p325 := eq_true p325
   replace q325 := eq_true q325
   have p326 : 0 ≤ (x19_7 : Int) := of_decide_eq_true (by first | (with_reducible assumption) | assumption)
   have q326 : x19_7 < (x12_5.length : Int) := of_decide_eq_true (by first | (with_reducible assumption) | assumption)
   obtain ⟨ad326, e326, hx326_0⟩ := Kd.at_int (Kd.R_reads' HO_12.out).2.2 x19_7 p326 q326
   obtain rfl : (⟨go83, 0, none⟩ : Addr) = ad326 := (by injection e326)
   (first | simp only [add_plain] at hx326_0 | simp only [add_at] at hx326_0 | simp only [Addr.add, Nat.zero_add] at hx326_0 | skip)
   replace p326 := eq_true p326
   replace q326 := eq_true q326
   have p327 : 0 ≤ ((rd (rd_L5 x9_2 x19_7) x183_8) : Int) := of_decide_eq_true (by first | (with_reducible assumption) | assumption)
   have q327 : (rd (rd_L5 x9_2 x19_7) x183_8) < (x12_5.length : Int) := of_decide_eq_true (by first | (with_reducible assumption) | assumption)
   obtain ⟨ad327, e327, hx327_0⟩ := Kd.at_int (Kd.R_reads' HO_12.out).2.2 (rd (rd_L5 x9_2 x19_7) x183_8) p327 q327
   obtain rfl : (⟨go83, 0, none⟩ : Addr) = ad327 := (by injection e327)
   (first | simp only [add_plain] at hx327_0 | simp only [add_at] at hx327_0 | simp only [Addr.add, Nat.zero_add] at hx327_0 | skip)
   replace p327 := eq_true p327
   replace q327 := eq_true q327
   as_aux_lemma =>
   refine start_ (n := 26) (S := fun w' => w'.cell? ⟨go83, ((rd (rd_L5 x9_2 x19_7) x183_8)).toNat, none⟩ = some (.int .i64 (rd x12_5 (rd (rd_L5 x9_2 x19_7) x183_8))) ∧ w'.cell? ⟨go83, (x19_7).toNat, none⟩ = some (.int .i64 (rd x12_5 x19_7)) ∧ w'.cell? ⟨go83, ((rd (rd_L5 x9_2 x19_7) x183_8)).toNat, none⟩ = some (.int .i64 (rd x12_5 (rd (rd_L5 x9_2 x19_7) x183_8)))) (ds := []) #[Z,Z,Z,Z,Z,Z,Z,Z,Z,Z,Z,Z,Z,Z,Z,Z,Z,Z,Z,Z,Z,Z,Z,Z,Z,Z] (by kernel_rfl) rfl rfl ⟨hx325_0, hx326_0, hx327_0⟩ (fun hHeld => ?_); refine with_tabW walk_Route.tab40 walk_Route.bits40 (fun HT_ HW_ => ?_)
   generalize wr.drew = w137 at HO_9 HO_12 HO_18 BK277 HR323_0 HB hx325_0 hx326_0 hx327_0 hHeld ⊢
   refine pX 0 (some 187) ?_ #[Y,Z,Z,Z,Z,Z,Z,Z,Z,Z,Z,Z,Z,Z,Z,Z,Z,Z,Z,Z,Z,Z,Z,Z,Z,Z] rfl rfl (any_of HT_.out (by kernel_rfl)) (fun _ _ _ h => h) (Or.inl ⟨by rfl, ?_⟩) ?_ ?_ ?_
   rotate_left
   · intro w'
     go_simp
     with_reducible rfl
   rotate_left
   · simp only [Nz]
     rfl
   refine pX 1 (some 188) ?_ #[Y,Y,Z,Z,Z,Z,Z,Z,Z,Z,Z,Z,Z,Z,Z,Z,Z,Z,Z,Z,Z,Z,Z,Z,Z,Z] rfl rfl (any_of HT_.out (by kernel_rfl)) (fun _ _ _ h => h) (Or.inl ⟨by rfl, ?_⟩) ?_ ?_ ?_
   rotate_left
   · intro w'
     go_simp
     with_reducible rfl
   rotate_left
   · simp only [Nz]
     rfl
   refine pX 2 (some 189) ?_ #[Y,Y,Y,Z,Z,Z,Z,Z,Z,Z,Z,Z,Z,Z,Z,Z,Z,Z,Z,Z,Z,Z,Z,Z,Z,Z] rfl rfl (any_of HT_.out (by kernel_rfl)) (fun _ _ _ h => h) (Or.inl ⟨by rfl, ?_⟩) ?_ ?_ ?_
   rotate_left
   · intro w'
     go_simp
     with_reducible rfl
   rotate_left
   · simp only [Nz]
     rfl
   refine pX 4 (some 191) ?_ #[Y,Y,Y,Z,Y,Z,Z,Z,Z,Z,Z,Z,Z,Z,Z,Z,Z,Z,Z,Z,Z,Z,Z,Z,Z,Z] rfl rfl (any_of HT_.out (by kernel_rfl)) (fun _ _ _ h => h) (Or.inl ⟨by rfl, ?_⟩) ?_ ?_ ?_
   rotate_left
   · intro w'
     go_simp
     with_reducible rfl
   rotate_left
   · simp only [Nz]
     rfl
   refine pX 5 (some 192) ?_ #[Y,Y,Y,Z,Y,Y,Z,Z,Z,Z,Z,Z,Z,Z,Z,Z,Z,Z,Z,Z,Z,Z,Z,Z,Z,Z] rfl rfl (any_of HT_.out (by kernel_rfl)) (fun _ _ _ h => h) (Or.inl ⟨by rfl, ?_⟩) ?_ ?_ ?_
   rotate_left
   · intro w'
     go_simp
     with_reducible rfl
   rotate_left
   · simp only [Nz]
     rfl
   refine pX 6 (some 193) ?_ #[Y,Y,Y,Z,Y,Y,Y,Z,Z,Z,Z,Z,Z,Z,Z,Z,Z,Z,Z,Z,Z,Z,Z,Z,Z,Z] rfl rfl (any_of HT_.out (by kernel_rfl)) (fun _ _ _ h => h) (Or.inl ⟨by rfl, ?_⟩) ?_ ?_ ?_
   rotate_left
   · intro w'
     go_simp
     with_reducible rfl
   rotate_left
   · simp only [Nz]
     rfl
   refine tX 3 (some 190) ?_ #[Y,Y,Y,Y,Y,Y,Y,Z,Z,Z,Z,Z,Z,Z,Z,Z,Z,Z,Z,Z,Z,Z,Z,Z,Z,Z] rfl rfl (take_ofW HT_.out HW_.out (by kernel_rfl)) (fun _ _ _ h => h) (Or.inl ⟨by rfl, ?_⟩) hHeld ?_ ?_ ?_
   rotate_left
   · rintro w' ⟨s0, s1, s2⟩
     go_simp
     with_reducible rfl
   rotate_left
   · simp only [Nz]
     rfl
   refine tX 7 (some 194) ?_ #[Y,Y,Y,Y,Y,Y,Y,Y,Z,Z,Z,Z,Z,Z,Z,Z,Z,Z,Z,Z,Z,Z,Z,Z,Z,Z] rfl rfl (take_ofW HT_.out HW_.out (by kernel_rfl)) (fun _ _ _ h => h) (Or.inl ⟨by rfl, ?_⟩) hHeld ?_ ?_ ?_
   rotate_left
   · rintro w' ⟨s0, s1, s2⟩
     go_simp
     with_reducible rfl
   rotate_left
   · simp only [Nz]
     rfl
   refine pX 8 (some 195) ?_ #[Y,Y,Y,Y,Y,Y,Y,Y,Y,Z,Z,Z,Z,Z,Z,Z,Z,Z,Z,Z,Z,Z,Z,Z,Z,Z] rfl rfl (any_of HT_.out (by kernel_rfl)) (fun _ _ _ h => h) (Or.inl ⟨by rfl, ?_⟩) ?_ ?_ ?_
   rotate_left
   · intro w'
     go_simp
     with_reducible rfl
   rotate_left
   · simp only [Nz]
     rfl
   refine pX 9 (some 196) ?_ #[Y,Y,Y,Y,Y,Y,Y,Y,Y,Y,Z,Z,Z,Z,Z,Z,Z,Z,Z,Z,Z,Z,Z,Z,Z,Z] rfl rfl (any_of HT_.out (by kernel_rfl)) (fun _ _ _ h => h) (Or.inl ⟨by rfl, ?_⟩) ?_ ?_ ?_
   rotate_left
   · intro w'
     go_simp
     with_reducible rfl
   rotate_left
   · simp only [Nz]
     rfl
   refine pX 10 (some 197) ?_ #[Y,Y,Y,Y,Y,Y,Y,Y,Y,Y,Y,Z,Z,Z,Z,Z,Z,Z,Z,Z,Z,Z,Z,Z,Z,Z] rfl rfl (any_of HT_.out (by kernel_rfl)) (fun _ _ _ h => h) (Or.inl ⟨by rfl, ?_⟩) ?_ ?_ ?_
   rotate_left
   · intro w'
     go_simp
     with_reducible rfl
   rotate_left
   · simp only [Nz]
     rfl
   refine pX 11 (some 198) ?_ #[Y,Y,Y,Y,Y,Y,Y,Y,Y,Y,Y,Y,Z,Z,Z,Z,Z,Z,Z,Z,Z,Z,Z,Z,Z,Z] rfl rfl (any_of HT_.out (by kernel_rfl)) (fun _ _ _ h => h) (Or.inl ⟨by rfl, ?_⟩) ?_ ?_ ?_
   rotate_left
   · intro w'
     go_simp
     with_reducible rfl
   rotate_left
   · simp only [Nz]
     rfl
   refine pX 12 (some 199) ?_ #[Y,Y,Y,Y,Y,Y,Y,Y,Y,Y,Y,Y,Y,Z,Z,Z,Z,Z,Z,Z,Z,Z,Z,Z,Z,Z] rfl rfl (any_of HT_.out (by kernel_rfl)) (fun _ _ _ h => h) (Or.inl ⟨by rfl, ?_⟩) ?_ ?_ ?_
   rotate_left
   · intro w'
     go_simp
     with_reducible rfl
   rotate_left
   · simp only [Nz]
     rfl
   refine pX 13 (some 200) ?_ #[Y,Y,Y,Y,Y,Y,Y,Y,Y,Y,Y,Y,Y,Y,Z,Z,Z,Z,Z,Z,Z,Z,Z,Z,Z,Z] rfl rfl (any_of HT_.out (by kernel_rfl)) (fun _ _ _ h => h) (Or.inl ⟨by rfl, ?_⟩) ?_ ?_ ?_
   rotate_left
   · intro w'
     go_simp
     with_reducible rfl
   rotate_left
   · simp only [Nz]
     rfl
   refine tX 14 (some 201) ?_ #[Y,Y,Y,Y,Y,Y,Y,Y,Y,Y,Y,Y,Y,Y,Y,Z,Z,Z,Z,Z,Z,Z,Z,Z,Z,Z] rfl rfl (take_ofW HT_.out HW_.out (by kernel_rfl)) (fun _ _ _ h => h) (Or.inl ⟨by rfl, ?_⟩) hHeld ?_ ?_ ?_
   rotate_left
   · rintro w' ⟨s0, s1, s2⟩
     go_simp
     with_reducible rfl
   rotate_left
   · simp only [Nz]
     rfl
   refine pX 15 (some 202) ?_ #[Y,Y,Y,Y,Y,Y,Y,Y,Y,Y,Y,Y,Y,Y,Y,Y,Z,Z,Z,Z,Z,Z,Z,Z,Z,Z] rfl rfl (any_of HT_.out (by kernel_rfl)) (fun _ _ _ h => h) (Or.inl ⟨by rfl, ?_⟩) ?_ ?_ ?_
   rotate_left
   · intro w'
     go_simp
     with_reducible rfl
   rotate_left
   · simp only [Nz]
     rfl
   refine pX 16 (some 203) ?_ #[Y,Y,Y,Y,Y,Y,Y,Y,Y,Y,Y,Y,Y,Y,Y,Y,Y,Z,Z,Z,Z,Z,Z,Z,Z,Z] rfl rfl (any_of HT_.out (by kernel_rfl)) (fun _ _ _ h => h) (Or.inl ⟨by rfl, ?_⟩) ?_ ?_ ?_
   rotate_left
   · intro w'
     go_simp
     with_reducible rfl
   rotate_left
   · simp only [Nz]
     rfl
   refine pX 17 (some 204) ?_ #[Y,Y,Y,Y,Y,Y,Y,Y,Y,Y,Y,Y,Y,Y,Y,Y,Y,Y,Z,Z,Z,Z,Z,Z,Z,Z] rfl rfl (any_of HT_.out (by kernel_rfl)) (fun _ _ _ h => h) (Or.inl ⟨by rfl, ?_⟩) ?_ ?_ ?_
   rotate_left
   · intro w'
     go_simp
     with_reducible rfl
   rotate_left
   · simp only [Nz]
     rfl
   refine pX 18 (some 205) ?_ #[Y,Y,Y,Y,Y,Y,Y,Y,Y,Y,Y,Y,Y,Y,Y,Y,Y,Y,Y,Z,Z,Z,Z,Z,Z,Z] rfl rfl (any_of HT_.out (by kernel_rfl)) (fun _ _ _ h => h) (Or.inl ⟨by rfl, ?_⟩) ?_ ?_ ?_
   rotate_left
   · intro w'
     go_simp
     with_reducible rfl
   rotate_left
   · simp only [Nz]
     rfl
   refine pX 19 (some 206) ?_ #[Y,Y,Y,Y,Y,Y,Y,Y,Y,Y,Y,Y,Y,Y,Y,Y,Y,Y,Y,Y,Z,Z,Z,Z,Z,Z] rfl rfl (any_of HT_.out (by kernel_rfl)) (fun _ _ _ h => h) (Or.inl ⟨by rfl, ?_⟩) ?_ ?_ ?_
   rotate_left
   · intro w'
     go_simp
     with_reducible rfl
   rotate_left
   · simp only [Nz]
     rfl
   refine pX 20 (some 207) ?_ #[Y,Y,Y,Y,Y,Y,Y,Y,Y,Y,Y,Y,Y,Y,Y,Y,Y,Y,Y,Y,Y,Z,Z,Z,Z,Z] rfl rfl (any_of HT_.out (by kernel_rfl)) (fun _ _ _ h => h) (Or.inl ⟨by rfl, ?_⟩) ?_ ?_ ?_
   rotate_left
   · intro w'
     go_simp
     with_reducible rfl
   rotate_left
   · simp only [Nz]
     rfl
   refine pure_ (i := 21) (N := some 208) (v := undef) (a' := ?_) #[Y,Y,Y,Y,Y,Y,Y,Y,Y,Y,Y,Y,Y,Y,Y,Y,Y,Y,Y,Y,Y,Y,Z,Z,Z,Z] rfl rfl (any_of HT_.out (by kernel_rfl)) (fun _ _ _ h => h) (Or.inr ⟨by rfl, rfl⟩) ?_ ?_
   rotate_left
   · simp only [Nz]
     rfl
   refine pure_ (i := 22) (N := some 209) (v := undef) (a' := ?_) #[Y,Y,Y,Y,Y,Y,Y,Y,Y,Y,Y,Y,Y,Y,Y,Y,Y,Y,Y,Y,Y,Y,Y,Z,Z,Z] rfl rfl (any_of HT_.out (by kernel_rfl)) (fun _ _ _ h => h) (Or.inr ⟨by rfl, rfl⟩) ?_ ?_
   rotate_left
   · simp only [Nz]
     rfl
   refine pure_ (i := 23) (N := some 210) (v := undef) (a' := ?_) #[Y,Y,Y,Y,Y,Y,Y,Y,Y,Y,Y,Y,Y,Y,Y,Y,Y,Y,Y,Y,Y,Y,Y,Y,Z,Z] rfl rfl (any_of HT_.out (by kernel_rfl)) (fun _ _ _ h => h) (Or.inr ⟨by rfl, rfl⟩) ?_ ?_
   rotate_left
   · simp only [Nz]
     rfl
   refine pX 24 (some 211) ?_ #[Y,Y,Y,Y,Y,Y,Y,Y,Y,Y,Y,Y,Y,Y,Y,Y,Y,Y,Y,Y,Y,Y,Y,Y,Y,Z] rfl rfl (any_of HT_.out (by kernel_rfl)) (fun _ _ _ h => h) (Or.inl ⟨by rfl, ?_⟩) ?_ ?_ ?_
   rotate_left
   · intro w'
     go_simp
     with_reducible rfl
   rotate_left
   · simp only [Nz]
     rfl
   refine pX 25 (some 212) ?_ #[Y,Y,Y,Y,Y,Y,Y,Y,Y,Y,Y,Y,Y,Y,Y,Y,Y,Y,Y,Y,Y,Y,Y,Y,Y,Y] rfl rfl (any_of HT_.out (by kernel_rfl)) (fun _ _ _ h => h) (Or.inl ⟨by rfl, ?_⟩) ?_ ?_ ?_
   rotate_left
   · intro w'
     go_simp
     with_reducible rfl
   rotate_left
   · simp only [Nz]
     rfl
   refine done_ (done_of HT_.out (by kernel_rfl)) ?_
   try go_wp2
   go_roundg k8
   case measure => have := HJ4.out; have := HK2.out; have := HK3.out; have := HJ71.out; have := HK5.out; have := HJ87.out; have := HK7.out; have := HK8.out; omega
   exact ⟨(rd (rd_L5 x9_2 x19_7) x183_8), (wrap64 (x183_8 + 1)), (by first|rfl|(simp;done)|(simp [*];done)), (by first|rfl|(simp;done)|(simp [*];done)), H', ⟨by have := HJ4.out;have := HK2.out;have := HK3.out;have := HJ71.out;have := HK5.out;have := HJ87.out;have := HK7.out;have := HK8.out;omega⟩, ⟨by (try simp only [hl12_5]);(with_reducible repeat (first|apply Kd.S_alloc|apply Kd.S_drewN|apply Kd.S_drew));exact HO_9.out⟩, ⟨by (try simp only [hl12_5]);(with_reducible repeat (first|apply Kd.R_alloc|apply Kd.R_drewN|apply Kd.R_drew));exact HO_12.out⟩, ⟨by (try simp only [hl12_5]);(with_reducible repeat (first|apply Kd.R_alloc|apply Kd.R_drewN|apply Kd.R_drew));exact HO_18.out⟩, ⟨by (try simp only [hl12_5]);(with_reducible repeat (first|refine blk_drewN ?_ _|refine blk_drew ?_|refine blk_alloc ?_ _));exact BK277.out⟩, ⟨by repeat (first|(with_reducible exact HR323_0.out)|(with_reducible refine Kd.C_alloc ?_ _)|(with_reducible refine Kd.C_drewN ?_ _)|(with_reducible refine Kd.C_drew ?_)|exact HR323_0.out)⟩, ⟨by repeat (first|(with_reducible first|exact HB.out|apply below_alloc|apply pw_below_drewN|apply below_drew1|refine below_set ?_ GE277.out)|exact HB.out)⟩⟩
 rw [if_neg c136] at H
 have c136b0 : decide (x20_8 < 0) = false := decide_eq_false c136
 clear c136
 by_cases c138 : (rd (rd_L5 x9_2 x19_7) x183_8) < x20_8
 rotate_left
 · rw [if_neg c138] at H
   have c138b0 : decide ((rd (rd_L5 x9_2 x19_7) x183_8) < x20_8) = false := decide_eq_false c138
   clear c138
   have H' := Aside0.mk H
   clear H
   have p324 : 0 ≤ (x183_8 : Int) := of_decide_eq_true (by first | (with_reducible assumption) | assumption)
   have q324 : x183_8 < ((rd_L5 x9_2 x19_7).length : Int) := of_decide_eq_true (by first | (with_reducible assumption) | assumption)
   obtain ⟨ad324, e324, hx324_0⟩ := Kd.at_int HR323_0.out x183_8 p324 q324
   cases e324
   replace p324 := eq_true p324
   replace q324 := eq_true q324
   try go_wp2
   have n0_ := Aside0.mk (Kd.S_drew HO_9.out)
   have n1_ := Aside0.mk (Kd.R_drew HO_12.out)
   have n2_ := Aside0.mk (Kd.R_drew HO_18.out)
   have n3_ := Aside0.mk (blk_drew BK277.out)
   have n4_ := Aside0.mk (Kd.C_drew HR323_0.out)
   have n5_ := Aside0.mk (below_drew1 HB.out)
   clear HO_9
   clear HO_12
   clear HO_18
   clear BK277
   clear HR323_0
   clear HB
   have HO_9 := n0_
   have HO_12 := n1_
   have HO_18 := n2_
   have BK277 := n3_
   have HR323_0 := n4_
   have HB := n5_
   clear n0_ n1_ n2_ n3_ n4_ n5_
   have p325 : 0 ≤ ((rd (rd_L5 x9_2 x19_7) x183_8) : Int) := of_decide_eq_true (by first | (with_reducible assumption) | assumption)
   have q325 : (rd (rd_L5 x9_2 x19_7) x183_8) < (x12_5.length : Int) := of_decide_eq_true (by first | (with_reducible assumption) | assumption)
   obtain ⟨ad325, e325, hx325_0⟩ := Kd.at_int (Kd.R_reads' HO_12.out).2.2 (rd (rd_L5 x9_2 x19_7) x183_8) p325 q325
   obtain rfl : (⟨go83, 0, none⟩ : Addr) = ad325 := (by injection e325)
   (first | simp only [add_plain] at hx325_0 | simp only [add_at] at hx325_0 | simp only [Addr.add, Nat.zero_add] at hx325_0 | skip)
   replace p325 := eq_true p325
   replace q325 := eq_true q325
   have p326 : 0 ≤ (x19_7 : Int) := of_decide_eq_true (by first | (with_reducible assumption) | assumption)
   have q326 : x19_7 < (x12_5.length : Int) := of_decide_eq_true (by first | (with_reducible assumption) | assumption)
   obtain ⟨ad326, e326, hx326_0⟩ := Kd.at_int (Kd.R_reads' HO_12.out).2.2 x19_7 p326 q326
   obtain rfl : (⟨go83, 0, none⟩ : Addr) = ad326 := (by injection e326)
   (first | simp only [add_plain] at hx326_0 | simp only [add_at] at hx326_0 | simp only [Addr.add, Nat.zero_add] at hx326_0 | skip)
   replace p326 := eq_true p326
   replace q326 := eq_true q326
   have p327 : 0 ≤ ((rd (rd_L5 x9_2 x19_7) x183_8) : Int) := of_decide_eq_true (by first | (with_reducible assumption) | assumption)
   have q327 : (rd (rd_L5 x9_2 x19_7) x183_8) < (x12_5.length : Int) := of_decide_eq_true (by first | (with_reducible assumption) | assumption)
   obtain ⟨ad327, e327, hx327_0⟩ := Kd.at_int (Kd.R_reads' HO_12.out).2.2 (rd (rd_L5 x9_2 x19_7) x183_8) p327 q327
   obtain rfl : (⟨go83, 0, none⟩ : Addr) = ad327 := (by injection e327)
   (first | simp only [add_plain] at hx327_0 | simp only [add_at] at hx327_0 | simp only [Addr.add, Nat.zero_add] at hx327_0 | skip)
   replace p327 := eq_true p327
   replace q327 := eq_true q327
   as_aux_lemma =>
   refine start_ (n := 26) (S := fun w' => w'.cell? ⟨go83, ((rd (rd_L5 x9_2 x19_7) x183_8)).toNat, none⟩ = some (.int .i64 (rd x12_5 (rd (rd_L5 x9_2 x19_7) x183_8))) ∧ w'.cell? ⟨go83, (x19_7).toNat, none⟩ = some (.int .i64 (rd x12_5 x19_7)) ∧ w'.cell? ⟨go83, ((rd (rd_L5 x9_2 x19_7) x183_8)).toNat, none⟩ = some (.int .i64 (rd x12_5 (rd (rd_L5 x9_2 x19_7) x183_8)))) (ds := []) #[Z,Z,Z,Z,Z,Z,Z,Z,Z,Z,Z,Z,Z,Z,Z,Z,Z,Z,Z,Z,Z,Z,Z,Z,Z,Z] (by kernel_rfl) rfl rfl ⟨hx325_0, hx326_0, hx327_0⟩ (fun hHeld => ?_); refine with_tabW walk_Route.tab40 walk_Route.bits40 (fun HT_ HW_ => ?_)
   generalize wr.drew = w140 at HO_9 HO_12 HO_18 BK277 HR323_0 HB hx325_0 hx326_0 hx327_0 hHeld ⊢
   refine pX 0 (some 187) ?_ #[Y,Z,Z,Z,Z,Z,Z,Z,Z,Z,Z,Z,Z,Z,Z,Z,Z,Z,Z,Z,Z,Z,Z,Z,Z,Z] rfl rfl (any_of HT_.out (by kernel_rfl)) (fun _ _ _ h => h) (Or.inl ⟨by rfl, ?_⟩) ?_ ?_ ?_
   rotate_left
   · intro w'
     go_simp
     with_reducible rfl
   rotate_left
   · simp only [Nz]
     rfl
   refine pX 1 (some 188) ?_ #[Y,Y,Z,Z,Z,Z,Z,Z,Z,Z,Z,Z,Z,Z,Z,Z,Z,Z,Z,Z,Z,Z,Z,Z,Z,Z] rfl rfl (any_of HT_.out (by kernel_rfl)) (fun _ _ _ h => h) (Or.inl ⟨by rfl, ?_⟩) ?_ ?_ ?_
   rotate_left
   · intro w'
     go_simp
     with_reducible rfl
   rotate_left
   · simp only [Nz]
     rfl
   refine pX 2 (some 189) ?_ #[Y,Y,Y,Z,Z,Z,Z,Z,Z,Z,Z,Z,Z,Z,Z,Z,Z,Z,Z,Z,Z,Z,Z,Z,Z,Z] rfl rfl (any_of HT_.out (by kernel_rfl)) (fun _ _ _ h => h) (Or.inl ⟨by rfl, ?_⟩) ?_ ?_ ?_
   rotate_left
   · intro w'
     go_simp
     with_reducible rfl
   rotate_left
   · simp only [Nz]
     rfl
   refine pX 4 (some 191) ?_ #[Y,Y,Y,Z,Y,Z,Z,Z,Z,Z,Z,Z,Z,Z,Z,Z,Z,Z,Z,Z,Z,Z,Z,Z,Z,Z] rfl rfl (any_of HT_.out (by kernel_rfl)) (fun _ _ _ h => h) (Or.inl ⟨by rfl, ?_⟩) ?_ ?_ ?_
   rotate_left
   · intro w'
     go_simp
     with_reducible rfl
   rotate_left
   · simp only [Nz]
     rfl
   refine pX 5 (some 192) ?_ #[Y,Y,Y,Z,Y,Y,Z,Z,Z,Z,Z,Z,Z,Z,Z,Z,Z,Z,Z,Z,Z,Z,Z,Z,Z,Z] rfl rfl (any_of HT_.out (by kernel_rfl)) (fun _ _ _ h => h) (Or.inl ⟨by rfl, ?_⟩) ?_ ?_ ?_
   rotate_left
   · intro w'
     go_simp
     with_reducible rfl
   rotate_left
   · simp only [Nz]
     rfl
   refine pX 6 (some 193) ?_ #[Y,Y,Y,Z,Y,Y,Y,Z,Z,Z,Z,Z,Z,Z,Z,Z,Z,Z,Z,Z,Z,Z,Z,Z,Z,Z] rfl rfl (any_of HT_.out (by kernel_rfl)) (fun _ _ _ h => h) (Or.inl ⟨by rfl, ?_⟩) ?_ ?_ ?_
   rotate_left
   · intro w'
     go_simp
     with_reducible rfl
   rotate_left
   · simp only [Nz]
     rfl
   refine tX 3 (some 190) ?_ #[Y,Y,Y,Y,Y,Y,Y,Z,Z,Z,Z,Z,Z,Z,Z,Z,Z,Z,Z,Z,Z,Z,Z,Z,Z,Z] rfl rfl (take_ofW HT_.out HW_.out (by kernel_rfl)) (fun _ _ _ h => h) (Or.inl ⟨by rfl, ?_⟩) hHeld ?_ ?_ ?_
   rotate_left
   · rintro w' ⟨s0, s1, s2⟩
     go_simp
     with_reducible rfl
   rotate_left
   · simp only [Nz]
     rfl
   refine tX 7 (some 194) ?_ #[Y,Y,Y,Y,Y,Y,Y,Y,Z,Z,Z,Z,Z,Z,Z,Z,Z,Z,Z,Z,Z,Z,Z,Z,Z,Z] rfl rfl (take_ofW HT_.out HW_.out (by kernel_rfl)) (fun _ _ _ h => h) (Or.inl ⟨by rfl, ?_⟩) hHeld ?_ ?_ ?_
   rotate_left
   · rintro w' ⟨s0, s1, s2⟩
     go_simp
     with_reducible rfl
   rotate_left
   · simp only [Nz]
     rfl
   refine pX 8 (some 195) ?_ #[Y,Y,Y,Y,Y,Y,Y,Y,Y,Z,Z,Z,Z,Z,Z,Z,Z,Z,Z,Z,Z,Z,Z,Z,Z,Z] rfl rfl (any_of HT_.out (by kernel_rfl)) (fun _ _ _ h => h) (Or.inl ⟨by rfl, ?_⟩) ?_ ?_ ?_
   rotate_left
   · intro w'
     go_simp
     with_reducible rfl
   rotate_left
   · simp only [Nz]
     rfl
   refine pX 9 (some 196) ?_ #[Y,Y,Y,Y,Y,Y,Y,Y,Y,Y,Z,Z,Z,Z,Z,Z,Z,Z,Z,Z,Z,Z,Z,Z,Z,Z] rfl rfl (any_of HT_.out (by kernel_rfl)) (fun _ _ _ h => h) (Or.inl ⟨by rfl, ?_⟩) ?_ ?_ ?_
   rotate_left
   · intro w'
     go_simp
     with_reducible rfl
   rotate_left
   · simp only [Nz]
     rfl
   refine pX 10 (some 197) ?_ #[Y,Y,Y,Y,Y,Y,Y,Y,Y,Y,Y,Z,Z,Z,Z,Z,Z,Z,Z,Z,Z,Z,Z,Z,Z,Z] rfl rfl (any_of HT_.out (by kernel_rfl)) (fun _ _ _ h => h) (Or.inl ⟨by rfl, ?_⟩) ?_ ?_ ?_
   rotate_left
   · intro w'
     go_simp
     with_reducible rfl
   rotate_left
   · simp only [Nz]
     rfl
   refine pX 11 (some 198) ?_ #[Y,Y,Y,Y,Y,Y,Y,Y,Y,Y,Y,Y,Z,Z,Z,Z,Z,Z,Z,Z,Z,Z,Z,Z,Z,Z] rfl rfl (any_of HT_.out (by kernel_rfl)) (fun _ _ _ h => h) (Or.inl ⟨by rfl, ?_⟩) ?_ ?_ ?_
   rotate_left
   · intro w'
     go_simp
     with_reducible rfl
   rotate_left
   · simp only [Nz]
     rfl
   refine pX 12 (some 199) ?_ #[Y,Y,Y,Y,Y,Y,Y,Y,Y,Y,Y,Y,Y,Z,Z,Z,Z,Z,Z,Z,Z,Z,Z,Z,Z,Z] rfl rfl (any_of HT_.out (by kernel_rfl)) (fun _ _ _ h => h) (Or.inl ⟨by rfl, ?_⟩) ?_ ?_ ?_
   rotate_left
   · intro w'
     go_simp
     with_reducible rfl
   rotate_left
   · simp only [Nz]
     rfl
   refine pX 13 (some 200) ?_ #[Y,Y,Y,Y,Y,Y,Y,Y,Y,Y,Y,Y,Y,Y,Z,Z,Z,Z,Z,Z,Z,Z,Z,Z,Z,Z] rfl rfl (any_of HT_.out (by kernel_rfl)) (fun _ _ _ h => h) (Or.inl ⟨by rfl, ?_⟩) ?_ ?_ ?_
   rotate_left
   · intro w'
     go_simp
     with_reducible rfl
   rotate_left
   · simp only [Nz]
     rfl
   refine tX 14 (some 201) ?_ #[Y,Y,Y,Y,Y,Y,Y,Y,Y,Y,Y,Y,Y,Y,Y,Z,Z,Z,Z,Z,Z,Z,Z,Z,Z,Z] rfl rfl (take_ofW HT_.out HW_.out (by kernel_rfl)) (fun _ _ _ h => h) (Or.inl ⟨by rfl, ?_⟩) hHeld ?_ ?_ ?_
   rotate_left
   · rintro w' ⟨s0, s1, s2⟩
     go_simp
     with_reducible rfl
   rotate_left
   · simp only [Nz]
     rfl
   refine pX 15 (some 202) ?_ #[Y,Y,Y,Y,Y,Y,Y,Y,Y,Y,Y,Y,Y,Y,Y,Y,Z,Z,Z,Z,Z,Z,Z,Z,Z,Z] rfl rfl (any_of HT_.out (by kernel_rfl)) (fun _ _ _ h => h) (Or.inl ⟨by rfl, ?_⟩) ?_ ?_ ?_
   rotate_left
   · intro w'
     go_simp
     with_reducible rfl
   rotate_left
   · simp only [Nz]
     rfl
   refine pX 16 (some 203) ?_ #[Y,Y,Y,Y,Y,Y,Y,Y,Y,Y,Y,Y,Y,Y,Y,Y,Y,Z,Z,Z,Z,Z,Z,Z,Z,Z] rfl rfl (any_of HT_.out (by kernel_rfl)) (fun _ _ _ h => h) (Or.inl ⟨by rfl, ?_⟩) ?_ ?_ ?_
   rotate_left
   · intro w'
     go_simp
     with_reducible rfl
   rotate_left
   · simp only [Nz]
     rfl
   refine pX 17 (some 204) ?_ #[Y,Y,Y,Y,Y,Y,Y,Y,Y,Y,Y,Y,Y,Y,Y,Y,Y,Y,Z,Z,Z,Z,Z,Z,Z,Z] rfl rfl (any_of HT_.out (by kernel_rfl)) (fun _ _ _ h => h) (Or.inl ⟨by rfl, ?_⟩) ?_ ?_ ?_
   rotate_left
   · intro w'
     go_simp
     with_reducible rfl
   rotate_left
   · simp only [Nz]
     rfl
   refine pX 18 (some 205) ?_ #[Y,Y,Y,Y,Y,Y,Y,Y,Y,Y,Y,Y,Y,Y,Y,Y,Y,Y,Y,Z,Z,Z,Z,Z,Z,Z] rfl rfl (any_of HT_.out (by kernel_rfl)) (fun _ _ _ h => h) (Or.inl ⟨by rfl, ?_⟩) ?_ ?_ ?_
   rotate_left
   · intro w'
     go_simp
     with_reducible rfl
   rotate_left
   · simp only [Nz]
     rfl
   refine pX 19 (some 206) ?_ #[Y,Y,Y,Y,Y,Y,Y,Y,Y,Y,Y,Y,Y,Y,Y,Y,Y,Y,Y,Y,Z,Z,Z,Z,Z,Z] rfl rfl (any_of HT_.out (by kernel_rfl)) (fun _ _ _ h => h) (Or.inl ⟨by rfl, ?_⟩) ?_ ?_ ?_
   rotate_left
   · intro w'
     go_simp
     with_reducible rfl
   rotate_left
   · simp only [Nz]
     rfl
   refine pX 20 (some 207) ?_ #[Y,Y,Y,Y,Y,Y,Y,Y,Y,Y,Y,Y,Y,Y,Y,Y,Y,Y,Y,Y,Y,Z,Z,Z,Z,Z] rfl rfl (any_of HT_.out (by kernel_rfl)) (fun _ _ _ h => h) (Or.inl ⟨by rfl, ?_⟩) ?_ ?_ ?_
   rotate_left
   · intro w'
     go_simp
     with_reducible rfl
   rotate_left
   · simp only [Nz]
     rfl
   refine pX 21 (some 208) ?_ #[Y,Y,Y,Y,Y,Y,Y,Y,Y,Y,Y,Y,Y,Y,Y,Y,Y,Y,Y,Y,Y,Y,Z,Z,Z,Z] rfl rfl (any_of HT_.out (by kernel_rfl)) (fun _ _ _ h => h) (Or.inl ⟨by rfl, ?_⟩) ?_ ?_ ?_
   rotate_left
   · intro w'
     go_simp
     with_reducible rfl
   rotate_left
   · simp only [Nz]
     rfl
   refine pX 22 (some 209) ?_ #[Y,Y,Y,Y,Y,Y,Y,Y,Y,Y,Y,Y,Y,Y,Y,Y,Y,Y,Y,Y,Y,Y,Y,Z,Z,Z] rfl rfl (any_of HT_.out (by kernel_rfl)) (fun _ _ _ h => h) (Or.inl ⟨by rfl, ?_⟩) ?_ ?_ ?_
   rotate_left
   · intro w'
     go_simp
     with_reducible rfl
   rotate_left
   · simp only [Nz]
     rfl
   refine pX 23 (some 210) ?_ #[Y,Y,Y,Y,Y,Y,Y,Y,Y,Y,Y,Y,Y,Y,Y,Y,Y,Y,Y,Y,Y,Y,Y,Y,Z,Z] rfl rfl (any_of HT_.out (by kernel_rfl)) (fun _ _ _ h => h) (Or.inl ⟨by rfl, ?_⟩) ?_ ?_ ?_
   rotate_left
   · intro w'
     go_simp
     with_reducible rfl
   rotate_left
   · simp only [Nz]
     rfl
   refine pX 24 (some 211) ?_ #[Y,Y,Y,Y,Y,Y,Y,Y,Y,Y,Y,Y,Y,Y,Y,Y,Y,Y,Y,Y,Y,Y,Y,Y,Y,Z] rfl rfl (any_of HT_.out (by kernel_rfl)) (fun _ _ _ h => h) (Or.inl ⟨by rfl, ?_⟩) ?_ ?_ ?_
   rotate_left
   · intro w'
     go_simp
     with_reducible rfl
   rotate_left
   · simp only [Nz]
     rfl
   refine pX 25 (some 212) ?_ #[Y,Y,Y,Y,Y,Y,Y,Y,Y,Y,Y,Y,Y,Y,Y,Y,Y,Y,Y,Y,Y,Y,Y,Y,Y,Y] rfl rfl (any_of HT_.out (by kernel_rfl)) (fun _ _ _ h => h) (Or.inl ⟨by rfl, ?_⟩) ?_ ?_ ?_
   rotate_left
   · intro w'
     go_simp
     with_reducible rfl
   rotate_left
   · simp only [Nz]
     rfl
   refine done_ (done_of HT_.out (by kernel_rfl)) ?_
   try go_wp2
   go_roundg k8
   case measure => have := HJ4.out; have := HK2.out; have := HK3.out; have := HJ71.out; have := HK5.out; have := HJ87.out; have := HK7.out; have := HK8.out; omega
   exact ⟨(x20_8), (wrap64 (x183_8 + 1)), (by first|rfl|(simp;done)|(simp [*];done)), (by first|rfl|(simp;done)|(simp [*];done)), H', ⟨by have := HJ4.out;have := HK2.out;have := HK3.out;have := HJ71.out;have := HK5.out;have := HJ87.out;have := HK7.out;have := HK8.out;omega⟩, ⟨by (try simp only [hl12_5]);(with_reducible repeat (first|apply Kd.S_alloc|apply Kd.S_drewN|apply Kd.S_drew));exact HO_9.out⟩, ⟨by (try simp only [hl12_5]);(with_reducible repeat (first|apply Kd.R_alloc|apply Kd.R_drewN|apply Kd.R_drew));exact HO_12.out⟩, ⟨by (try simp only [hl12_5]);(with_reducible repeat (first|apply Kd.R_alloc|apply Kd.R_drewN|apply Kd.R_drew));exact HO_18.out⟩, ⟨by (try simp only [hl12_5]);(with_reducible repeat (first|refine blk_drewN ?_ _|refine blk_drew ?_|refine blk_alloc ?_ _));exact BK277.out⟩, ⟨by repeat (first|(with_reducible exact HR323_0.out)|(with_reducible refine Kd.C_alloc ?_ _)|(with_reducible refine Kd.C_drewN ?_ _)|(with_reducible refine Kd.C_drew ?_)|exact HR323_0.out)⟩, ⟨by repeat (first|(with_reducible first|exact HB.out|apply below_alloc|apply pw_below_drewN|apply below_drew1|refine below_set ?_ GE277.out)|exact HB.out)⟩⟩
 rw [if_pos c138] at H
 have c138b0 : decide ((rd (rd_L5 x9_2 x19_7) x183_8) < x20_8) = true := decide_eq_true c138
 clear c138
 have H' := Aside0.mk H
 clear H
 have p324 : 0 ≤ (x183_8 : Int) := of_decide_eq_true (by first | (with_reducible assumption) | assumption)
 have q324 : x183_8 < ((rd_L5 x9_2 x19_7).length : Int) := of_decide_eq_true (by first | (with_reducible assumption) | assumption)
 obtain ⟨ad324, e324, hx324_0⟩ := Kd.at_int HR323_0.out x183_8 p324 q324
 cases e324
 replace p324 := eq_true p324
 replace q324 := eq_true q324
 try go_wp2
 have n0_ := Aside0.mk (Kd.S_drew HO_9.out)
 have n1_ := Aside0.mk (Kd.R_drew HO_12.out)
 have n2_ := Aside0.mk (Kd.R_drew HO_18.out)
 have n3_ := Aside0.mk (blk_drew BK277.out)
 have n4_ := Aside0.mk (Kd.C_drew HR323_0.out)
 have n5_ := Aside0.mk (below_drew1 HB.out)
 clear HO_9
 clear HO_12
 clear HO_18
 clear BK277
 clear HR323_0
 clear HB
 have HO_9 := n0_
 have HO_12 := n1_
 have HO_18 := n2_
 have BK277 := n3_
 have HR323_0 := n4_
 have HB := n5_
 clear n0_ n1_ n2_ n3_ n4_ n5_
 have p325 : 0 ≤ ((rd (rd_L5 x9_2 x19_7) x183_8) : Int) := of_decide_eq_true (by first | (with_reducible assumption) | assumption)
 have q325 : (rd (rd_L5 x9_2 x19_7) x183_8) < (x12_5.length : Int) := of_decide_eq_true (by first | (with_reducible assumption) | assumption)
 obtain ⟨ad325, e325, hx325_0⟩ := Kd.at_int (Kd.R_reads' HO_12.out).2.2 (rd (rd_L5 x9_2 x19_7) x183_8) p325 q325
 obtain rfl : (⟨go83, 0, none⟩ : Addr) = ad325 := (by injection e325)
 (first | simp only [add_plain] at hx325_0 | simp only [add_at] at hx325_0 | simp only [Addr.add, Nat.zero_add] at hx325_0 | skip)
 replace p325 := eq_true p325
 replace q325 := eq_true q325
 have p326 : 0 ≤ (x19_7 : Int) := of_decide_eq_true (by first | (with_reducible assumption) | assumption)
 have q326 : x19_7 < (x12_5.length : Int) := of_decide_eq_true (by first | (with_reducible assumption) | assumption)
 obtain ⟨ad326, e326, hx326_0⟩ := Kd.at_int (Kd.R_reads' HO_12.out).2.2 x19_7 p326 q326
 obtain rfl : (⟨go83, 0, none⟩ : Addr) = ad326 := (by injection e326)
 (first | simp only [add_plain] at hx326_0 | simp only [add_at] at hx326_0 | simp only [Addr.add, Nat.zero_add] at hx326_0 | skip)
 replace p326 := eq_true p326
 replace q326 := eq_true q326
 have p327 : 0 ≤ ((rd (rd_L5 x9_2 x19_7) x183_8) : Int) := of_decide_eq_true (by first | (with_reducible assumption) | assumption)
 have q327 : (rd (rd_L5 x9_2 x19_7) x183_8) < (x12_5.length : Int) := of_decide_eq_true (by first | (with_reducible assumption) | assumption)
 obtain ⟨ad327, e327, hx327_0⟩ := Kd.at_int (Kd.R_reads' HO_12.out).2.2 (rd (rd_L5 x9_2 x19_7) x183_8) p327 q327
 obtain rfl : (⟨go83, 0, none⟩ : Addr) = ad327 := (by injection e327)
 (first | simp only [add_plain] at hx327_0 | simp only [add_at] at hx327_0 | simp only [Addr.add, Nat.zero_add] at hx327_0 | skip)
 replace p327 := eq_true p327
 replace q327 := eq_true q327
 as_aux_lemma =>
 refine start_ (n := 26) (S := fun w' => w'.cell? ⟨go83, ((rd (rd_L5 x9_2 x19_7) x183_8)).toNat, none⟩ = some (.int .i64 (rd x12_5 (rd (rd_L5 x9_2 x19_7) x183_8))) ∧ w'.cell? ⟨go83, (x19_7).toNat, none⟩ = some (.int .i64 (rd x12_5 x19_7)) ∧ w'.cell? ⟨go83, ((rd (rd_L5 x9_2 x19_7) x183_8)).toNat, none⟩ = some (.int .i64 (rd x12_5 (rd (rd_L5 x9_2 x19_7) x183_8)))) (ds := []) #[Z,Z,Z,Z,Z,Z,Z,Z,Z,Z,Z,Z,Z,Z,Z,Z,Z,Z,Z,Z,Z,Z,Z,Z,Z,Z] (by kernel_rfl) rfl rfl ⟨hx325_0, hx326_0, hx327_0⟩ (fun hHeld => ?_); refine with_tabW walk_Route.tab40 walk_Route.bits40 (fun HT_ HW_ => ?_)
 generalize wr.drew = w139 at HO_9 HO_12 HO_18 BK277 HR323_0 HB hx325_0 hx326_0 hx327_0 hHeld ⊢
 refine pX 0 (some 187) ?_ #[Y,Z,Z,Z,Z,Z,Z,Z,Z,Z,Z,Z,Z,Z,Z,Z,Z,Z,Z,Z,Z,Z,Z,Z,Z,Z] rfl rfl (any_of HT_.out (by kernel_rfl)) (fun _ _ _ h => h) (Or.inl ⟨by rfl, ?_⟩) ?_ ?_ ?_
 rotate_left
 · intro w'
   go_simp
   with_reducible rfl
 rotate_left
 · simp only [Nz]
   rfl
 refine pX 1 (some 188) ?_ #[Y,Y,Z,Z,Z,Z,Z,Z,Z,Z,Z,Z,Z,Z,Z,Z,Z,Z,Z,Z,Z,Z,Z,Z,Z,Z] rfl rfl (any_of HT_.out (by kernel_rfl)) (fun _ _ _ h => h) (Or.inl ⟨by rfl, ?_⟩) ?_ ?_ ?_
 rotate_left
 · intro w'
   go_simp
   with_reducible rfl
 rotate_left
 · simp only [Nz]
   rfl
 refine pX 2 (some 189) ?_ #[Y,Y,Y,Z,Z,Z,Z,Z,Z,Z,Z,Z,Z,Z,Z,Z,Z,Z,Z,Z,Z,Z,Z,Z,Z,Z] rfl rfl (any_of HT_.out (by kernel_rfl)) (fun _ _ _ h => h) (Or.inl ⟨by rfl, ?_⟩) ?_ ?_ ?_
 rotate_left
 · intro w'
   go_simp
   with_reducible rfl
 rotate_left
 · simp only [Nz]
   rfl
 refine pX 4 (some 191) ?_ #[Y,Y,Y,Z,Y,Z,Z,Z,Z,Z,Z,Z,Z,Z,Z,Z,Z,Z,Z,Z,Z,Z,Z,Z,Z,Z] rfl rfl (any_of HT_.out (by kernel_rfl)) (fun _ _ _ h => h) (Or.inl ⟨by rfl, ?_⟩) ?_ ?_ ?_
 rotate_left
 · intro w'
   go_simp
   with_reducible rfl
 rotate_left
 · simp only [Nz]
   rfl
 refine pX 5 (some 192) ?_ #[Y,Y,Y,Z,Y,Y,Z,Z,Z,Z,Z,Z,Z,Z,Z,Z,Z,Z,Z,Z,Z,Z,Z,Z,Z,Z] rfl rfl (any_of HT_.out (by kernel_rfl)) (fun _ _ _ h => h) (Or.inl ⟨by rfl, ?_⟩) ?_ ?_ ?_
 rotate_left
 · intro w'
   go_simp
   with_reducible rfl
 rotate_left
 · simp only [Nz]
   rfl
 refine pX 6 (some 193) ?_ #[Y,Y,Y,Z,Y,Y,Y,Z,Z,Z,Z,Z,Z,Z,Z,Z,Z,Z,Z,Z,Z,Z,Z,Z,Z,Z] rfl rfl (any_of HT_.out (by kernel_rfl)) (fun _ _ _ h => h) (Or.inl ⟨by rfl, ?_⟩) ?_ ?_ ?_
 rotate_left
 · intro w'
   go_simp
   with_reducible rfl
 rotate_left
 · simp only [Nz]
   rfl
 refine tX 3 (some 190) ?_ #[Y,Y,Y,Y,Y,Y,Y,Z,Z,Z,Z,Z,Z,Z,Z,Z,Z,Z,Z,Z,Z,Z,Z,Z,Z,Z] rfl rfl (take_ofW HT_.out HW_.out (by kernel_rfl)) (fun _ _ _ h => h) (Or.inl ⟨by rfl, ?_⟩) hHeld ?_ ?_ ?_
 rotate_left
 · rintro w' ⟨s0, s1, s2⟩
   go_simp
   with_reducible rfl
 rotate_left
 · simp only [Nz]
   rfl
 refine tX 7 (some 194) ?_ #[Y,Y,Y,Y,Y,Y,Y,Y,Z,Z,Z,Z,Z,Z,Z,Z,Z,Z,Z,Z,Z,Z,Z,Z,Z,Z] rfl rfl (take_ofW HT_.out HW_.out (by kernel_rfl)) (fun _ _ _ h => h) (Or.inl ⟨by rfl, ?_⟩) hHeld ?_ ?_ ?_
 rotate_left
 · rintro w' ⟨s0, s1, s2⟩
   go_simp
   with_reducible rfl
 rotate_left
 · simp only [Nz]
   rfl
 refine pX 8 (some 195) ?_ #[Y,Y,Y,Y,Y,Y,Y,Y,Y,Z,Z,Z,Z,Z,Z,Z,Z,Z,Z,Z,Z,Z,Z,Z,Z,Z] rfl rfl (any_of HT_.out (by kernel_rfl)) (fun _ _ _ h => h) (Or.inl ⟨by rfl, ?_⟩) ?_ ?_ ?_
 rotate_left
 · intro w'
   go_simp
   with_reducible rfl
 rotate_left
 · simp only [Nz]
   rfl
 refine pX 9 (some 196) ?_ #[Y,Y,Y,Y,Y,Y,Y,Y,Y,Y,Z,Z,Z,Z,Z,Z,Z,Z,Z,Z,Z,Z,Z,Z,Z,Z] rfl rfl (any_of HT_.out (by kernel_rfl)) (fun _ _ _ h => h) (Or.inl ⟨by rfl, ?_⟩) ?_ ?_ ?_
 rotate_left
 · intro w'
   go_simp
   with_reducible rfl
 rotate_left
 · simp only [Nz]
   rfl
 refine pX 10 (some 197) ?_ #[Y,Y,Y,Y,Y,Y,Y,Y,Y,Y,Y,Z,Z,Z,Z,Z,Z,Z,Z,Z,Z,Z,Z,Z,Z,Z] rfl rfl (any_of HT_.out (by kernel_rfl)) (fun _ _ _ h => h) (Or.inl ⟨by rfl, ?_⟩) ?_ ?_ ?_
 rotate_left
 · intro w'
   go_simp
   with_reducible rfl
 rotate_left
 · simp only [Nz]
   rfl
 refine pX 11 (some 198) ?_ #[Y,Y,Y,Y,Y,Y,Y,Y,Y,Y,Y,Y,Z,Z,Z,Z,Z,Z,Z,Z,Z,Z,Z,Z,Z,Z] rfl rfl (any_of HT_.out (by kernel_rfl)) (fun _ _ _ h => h) (Or.inl ⟨by rfl, ?_⟩) ?_ ?_ ?_
 rotate_left
 · intro w'
   go_simp
   with_reducible rfl
 rotate_left
 · simp only [Nz]
   rfl
 refine pX 12 (some 199) ?_ #[Y,Y,Y,Y,Y,Y,Y,Y,Y,Y,Y,Y,Y,Z,Z,Z,Z,Z,Z,Z,Z,Z,Z,Z,Z,Z] rfl rfl (any_of HT_.out (by kernel_rfl)) (fun _ _ _ h => h) (Or.inl ⟨by rfl, ?_⟩) ?_ ?_ ?_
 rotate_left
 · intro w'
   go_simp
   with_reducible rfl
 rotate_left
 · simp only [Nz]
   rfl
 refine pX 13 (some 200) ?_ #[Y,Y,Y,Y,Y,Y,Y,Y,Y,Y,Y,Y,Y,Y,Z,Z,Z,Z,Z,Z,Z,Z,Z,Z,Z,Z] rfl rfl (any_of HT_.out (by kernel_rfl)) (fun _ _ _ h => h) (Or.inl ⟨by rfl, ?_⟩) ?_ ?_ ?_
 rotate_left
 · intro w'
   go_simp
   with_reducible rfl
 rotate_left
 · simp only [Nz]
   rfl
 refine tX 14 (some 201) ?_ #[Y,Y,Y,Y,Y,Y,Y,Y,Y,Y,Y,Y,Y,Y,Y,Z,Z,Z,Z,Z,Z,Z,Z,Z,Z,Z] rfl rfl (take_ofW HT_.out HW_.out (by kernel_rfl)) (fun _ _ _ h => h) (Or.inl ⟨by rfl, ?_⟩) hHeld ?_ ?_ ?_
 rotate_left
 · rintro w' ⟨s0, s1, s2⟩
   go_simp
   with_reducible rfl
 rotate_left
 · simp only [Nz]
   rfl
 refine pX 15 (some 202) ?_ #[Y,Y,Y,Y,Y,Y,Y,Y,Y,Y,Y,Y,Y,Y,Y,Y,Z,Z,Z,Z,Z,Z,Z,Z,Z,Z] rfl rfl (any_of HT_.out (by kernel_rfl)) (fun _ _ _ h => h) (Or.inl ⟨by rfl, ?_⟩) ?_ ?_ ?_
 rotate_left
 · intro w'
   go_simp
   with_reducible rfl
 rotate_left
 · simp only [Nz]
   rfl
 refine pX 16 (some 203) ?_ #[Y,Y,Y,Y,Y,Y,Y,Y,Y,Y,Y,Y,Y,Y,Y,Y,Y,Z,Z,Z,Z,Z,Z,Z,Z,Z] rfl rfl (any_of HT_.out (by kernel_rfl)) (fun _ _ _ h => h) (Or.inl ⟨by rfl, ?_⟩) ?_ ?_ ?_
 rotate_left
 · intro w'
   go_simp
   with_reducible rfl
 rotate_left
 · simp only [Nz]
   rfl
 refine pX 17 (some 204) ?_ #[Y,Y,Y,Y,Y,Y,Y,Y,Y,Y,Y,Y,Y,Y,Y,Y,Y,Y,Z,Z,Z,Z,Z,Z,Z,Z] rfl rfl (any_of HT_.out (by kernel_rfl)) (fun _ _ _ h => h) (Or.inl ⟨by rfl, ?_⟩) ?_ ?_ ?_
 rotate_left
 · intro w'
   go_simp
   with_reducible rfl
 rotate_left
 · simp only [Nz]
   rfl
 refine pX 18 (some 205) ?_ #[Y,Y,Y,Y,Y,Y,Y,Y,Y,Y,Y,Y,Y,Y,Y,Y,Y,Y,Y,Z,Z,Z,Z,Z,Z,Z] rfl rfl (any_of HT_.out (by kernel_rfl)) (fun _ _ _ h => h) (Or.inl ⟨by rfl, ?_⟩) ?_ ?_ ?_
 rotate_left
 · intro w'
   go_simp
   with_reducible rfl
 rotate_left
 · simp only [Nz]
   rfl
 refine pX 19 (some 206) ?_ #[Y,Y,Y,Y,Y,Y,Y,Y,Y,Y,Y,Y,Y,Y,Y,Y,Y,Y,Y,Y,Z,Z,Z,Z,Z,Z] rfl rfl (any_of HT_.out (by kernel_rfl)) (fun _ _ _ h => h) (Or.inl ⟨by rfl, ?_⟩) ?_ ?_ ?_
 rotate_left
 · intro w'
   go_simp
   with_reducible rfl
 rotate_left
 · simp only [Nz]
   rfl
 refine pX 20 (some 207) ?_ #[Y,Y,Y,Y,Y,Y,Y,Y,Y,Y,Y,Y,Y,Y,Y,Y,Y,Y,Y,Y,Y,Z,Z,Z,Z,Z] rfl rfl (any_of HT_.out (by kernel_rfl)) (fun _ _ _ h => h) (Or.inl ⟨by rfl, ?_⟩) ?_ ?_ ?_
 rotate_left
 · intro w'
   go_simp
   with_reducible rfl
 rotate_left
 · simp only [Nz]
   rfl
 refine pX 21 (some 208) ?_ #[Y,Y,Y,Y,Y,Y,Y,Y,Y,Y,Y,Y,Y,Y,Y,Y,Y,Y,Y,Y,Y,Y,Z,Z,Z,Z] rfl rfl (any_of HT_.out (by kernel_rfl)) (fun _ _ _ h => h) (Or.inl ⟨by rfl, ?_⟩) ?_ ?_ ?_
 rotate_left
 · intro w'
   go_simp
   with_reducible rfl
 rotate_left
 · simp only [Nz]
   rfl
 refine pX 22 (some 209) ?_ #[Y,Y,Y,Y,Y,Y,Y,Y,Y,Y,Y,Y,Y,Y,Y,Y,Y,Y,Y,Y,Y,Y,Y,Z,Z,Z] rfl rfl (any_of HT_.out (by kernel_rfl)) (fun _ _ _ h => h) (Or.inl ⟨by rfl, ?_⟩) ?_ ?_ ?_
 rotate_left
 · intro w'
   go_simp
   with_reducible rfl
 rotate_left
 · simp only [Nz]
   rfl
 refine pX 23 (some 210) ?_ #[Y,Y,Y,Y,Y,Y,Y,Y,Y,Y,Y,Y,Y,Y,Y,Y,Y,Y,Y,Y,Y,Y,Y,Y,Z,Z] rfl rfl (any_of HT_.out (by kernel_rfl)) (fun _ _ _ h => h) (Or.inl ⟨by rfl, ?_⟩) ?_ ?_ ?_
 rotate_left
 · intro w'
   go_simp
   with_reducible rfl
 rotate_left
 · simp only [Nz]
   rfl
 refine pX 24 (some 211) ?_ #[Y,Y,Y,Y,Y,Y,Y,Y,Y,Y,Y,Y,Y,Y,Y,Y,Y,Y,Y,Y,Y,Y,Y,Y,Y,Z] rfl rfl (any_of HT_.out (by kernel_rfl)) (fun _ _ _ h => h) (Or.inl ⟨by rfl, ?_⟩) ?_ ?_ ?_
 rotate_left
 · intro w'
   go_simp
   with_reducible rfl
 rotate_left
 · simp only [Nz]
   rfl
 refine pX 25 (some 212) ?_ #[Y,Y,Y,Y,Y,Y,Y,Y,Y,Y,Y,Y,Y,Y,Y,Y,Y,Y,Y,Y,Y,Y,Y,Y,Y,Y] rfl rfl (any_of HT_.out (by kernel_rfl)) (fun _ _ _ h => h) (Or.inl ⟨by rfl, ?_⟩) ?_ ?_ ?_
 rotate_left
 · intro w'
   go_simp
   with_reducible rfl
 rotate_left
 · simp only [Nz]
   rfl
 refine done_ (done_of HT_.out (by kernel_rfl)) ?_
 try go_wp2
 go_roundg k8
 case measure => have := HJ4.out; have := HK2.out; have := HK3.out; have := HJ71.out; have := HK5.out; have := HJ87.out; have := HK7.out; have := HK8.out; omega
 exact ⟨(rd (rd_L5 x9_2 x19_7) x183_8), (wrap64 (x183_8 + 1)), (by first|rfl|(simp;done)|(simp [*];done)), (by first|rfl|(simp;done)|(simp [*];done)), H', ⟨by have := HJ4.out;have := HK2.out;have := HK3.out;have := HJ71.out;have := HK5.out;have := HJ87.out;have := HK7.out;have := HK8.out;omega⟩, ⟨by (try simp only [hl12_5]);(with_reducible repeat (first|apply Kd.S_alloc|apply Kd.S_drewN|apply Kd.S_drew));exact HO_9.out⟩, ⟨by (try simp only [hl12_5]);(with_reducible repeat (first|apply Kd.R_alloc|apply Kd.R_drewN|apply Kd.R_drew));exact HO_12.out⟩, ⟨by (try simp only [hl12_5]);(with_reducible repeat (first|apply Kd.R_alloc|apply Kd.R_drewN|apply Kd.R_drew));exact HO_18.out⟩, ⟨by (try simp only [hl12_5]);(with_reducible repeat (first|refine blk_drewN ?_ _|refine blk_drew ?_|refine blk_alloc ?_ _));exact BK277.out⟩, ⟨by repeat (first|(with_reducible exact HR323_0.out)|(with_reducible refine Kd.C_alloc ?_ _)|(with_reducible refine Kd.C_drewN ?_ _)|(with_reducible refine Kd.C_drew ?_)|exact HR323_0.out)⟩, ⟨by repeat (first|(with_reducible first|exact HB.out|apply below_alloc|apply pw_below_drewN|apply below_drew1|refine below_set ?_ GE277.out)|exact HB.out)⟩⟩

end Go.Proofs.Ytngglgkemonibaa.P
