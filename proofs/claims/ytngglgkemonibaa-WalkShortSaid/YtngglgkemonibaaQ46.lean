-- made by wip/fork.py (a program of this session) out of the translation; Lean checks it
import Derived.Test.YtngglgkemonibaaQ29
import Derived.Test.YtngglgkemonibaaQ45
import Derived.Test.YtngglgkemonibaaQ36
import Derived.WalkMore
set_option linter.unusedVariables false
set_option linter.unusedSimpArgs false
set_option linter.unnecessarySimpa false
/- flat -/
namespace Go.Proofs.Ytngglgkemonibaa.P
open Go.RowKit Go.Proofs.YtngglgkemonibaaW.PrintWords Go.Proofs.YtngglgkemonibaaW.PrintLast Go.Proofs.YtngglgkemonibaaW.PrintMore
attribute [local go_sem] max2_int min2_int max_two min_two max_three min_three max_four min_four   -- for this text's walks alone
set_option linter.unusedVariables false
set_option linter.unusedSimpArgs false

/-! ### walk_Apart: function 24 -/
mutual
def walk_Apart.l0 : Nat → List (List Int) → List Int → List (List Int) → Int → Int → Option (Bool)
  | 0, _, _, _, _, _ => none
  | k + 1, x0, x3, x12, x13, x14 => if x14 < x13 then (if 0 ≤ x14 then (if x14 < (x12.length : Int) then (if x3.length + (rd_L5 x12 x14).length < 17592186044416 then (walk_Apart.l0 k x0 (x3 ++ (rd_L5 x12 x14)) x12 x13 (wrap64 (x14 + 1))) else (none)) else (none)) else (none)) else ((slices_Sort_int_int.f x3).bind fun t438 => (walk_Apart.l1 k t438 x0 (x0.length : Int) 0))
def walk_Apart.l1 : Nat → List Int → List (List Int) → Int → Int → Option (Bool)
  | 0, _, _, _, _ => none
  | k + 1, x3, x24, x25, x26 => if x26 < x25 then (if 0 ≤ x26 then (if x26 < (x24.length : Int) then (if ((rd_L5 x24 x26).length : Int) < 3 then (walk_Apart.l1 k x3 x24 x25 (wrap64 (x26 + 1))) else (if 1 ≤ (wrap64 (((rd_L5 x24 x26).length : Int) - 1)) then (if (wrap64 (((rd_L5 x24 x26).length : Int) - 1)) ≤ ((rd_L5 x24 x26).length : Int) then (walk_Apart.l2 k x3 x24 x25 x26 (((rd_L5 x24 x26).take ((wrap64 (((rd_L5 x24 x26).length : Int) - 1)) : Int).toNat).drop 1) ((((rd_L5 x24 x26).take ((wrap64 (((rd_L5 x24 x26).length : Int) - 1)) : Int).toNat).drop 1).length : Int) 0) else (none)) else (none))) else (none)) else (none)) else (some true)
def walk_Apart.l2 : Nat → List Int → List (List Int) → Int → Int → List Int → Int → Int → Option (Bool)
  | 0, _, _, _, _, _, _, _ => none
  | k + 1, x3, x24, x25, x26, x37, x38, x39 => if x39 < x38 then (if 0 ≤ x39 then (if x39 < (x37.length : Int) then ((slices_BinarySearch_int_int.f k x3 (rd x37 x39)).bind fun bt442 => (if (wrap64 (bt442.1 + 1)) < (x3.length : Int) then (if 0 ≤ (wrap64 (bt442.1 + 1)) then (if (rd x3 (wrap64 (bt442.1 + 1))) = (rd x37 x39) then (some false) else (walk_Apart.l2 k x3 x24 x25 x26 x37 x38 (wrap64 (x39 + 1)))) else (none)) else (walk_Apart.l2 k x3 x24 x25 x26 x37 x38 (wrap64 (x39 + 1))))) else (none)) else (none)) else (walk_Apart.l1 k x3 x24 x25 (wrap64 (x26 + 1)))
end
def walk_Apart.f (k : Nat) (l0 : List (List Int)) : Option (Bool) := walk_Apart.l0 k l0 ([] : List Int) l0 (l0.length : Int) 0
set_option maxHeartbeats 8000000 in
set_option maxRecDepth 100000 in
theorem walk_Apart.calls (k : Nat) (A0 : Option Addr) (c0 : Nat) (l0 : List (List Int)) (r : Bool) (w : World) (hr0 : Kd.C (Kd.slice 3 (Kd.int .i64)) w A0 l0.length l0) (hc0 : l0.length ≤ c0) (h : walk_Apart.f k l0 = some r) :
    Calls Try.prog 24 #[.slice A0 l0.length c0] w fun e w' => e = .returned (.bool r) ∧ Below w.heap.size w w' := by
 have HR0 := Aside0.mk hr0
 have HC0 := Aside0.mk hc0
 clear hr0 hc0
 have HB := Aside0.mk (Below.refl w.heap.size w)
 have H : (walk_Apart.l0 k l0 ([] : List Int) l0 (l0.length : Int) 0) = some r := h
 clear h
 have H' := Aside0.mk H
 clear H
 go_enter Try.func24, Try.ntmps24
 go_wp2
 go_step3
 go_wp2
 go_loopg [3, 14] k (fun kq v3 v14 w' => ∃ (x3_1 : List Int) (x14_1 : Int), v14 = .int .i64 x14_1 ∧ Aside0 (walk_Apart.l0 kq l0 x3_1 l0 (l0.length : Int) x14_1 = some r) ∧ Aside0 (kq ≤ k) ∧ Aside0 (Kd.R (Kd.int .i64) 3 w' w.heap.size (fun _ => True) v3 x3_1) ∧ Aside0 (Below w.heap.size w w'))
 case atStart => exact ⟨(([] : List Int)), (0), (by first | rfl | (simp; done) | (simp [*]; done)), H', ⟨Nat.le_refl _⟩, ⟨by first | exact Kd.R_nil _ _ _ _ _ | exact Kd.N_nil _ _ _ _ _ | exact Kd.V_nil _ _ _ _ _ | exact Kd.Q_nil _ _ _ _ _ | exact Kd.S_nil _ _ _ _ _⟩, ⟨by repeat (first | (with_reducible first | exact HB.out | apply below_alloc | apply pw_below_drewN | apply below_drew1) | exact HB.out)⟩⟩
 clear H'
 obtain ⟨x3_1, x14_1, rfl, HA, HK1, HO_3, HB⟩ := hrel
 rcases gk with _ | k1
 · exact absurd HA.out (by simp [walk_Apart.l0])
 have H := HA.out
 clear HA
 simp only [walk_Apart.l0] at H
 by_cases c2 : x14_1 < (l0.length : Int)
 · rw [if_pos c2] at H
   have c2b0 : decide (x14_1 < (l0.length : Int)) = true := decide_eq_true c2
   clear c2
   by_cases c3 : 0 ≤ x14_1
   rotate_left
   · rw [if_neg c3] at H
     exact absurd H (by simp)
   rw [if_pos c3] at H
   have c3b0 : decide (0 ≤ x14_1) = true := decide_eq_true c3
   clear c3
   by_cases c4 : x14_1 < (l0.length : Int)
   rotate_left
   · rw [if_neg c4] at H
     exact absurd H (by simp)
   rw [if_pos c4] at H
   have c4b0 : decide (x14_1 < (l0.length : Int)) = true := decide_eq_true c4
   clear c4
   by_cases c5 : x3_1.length + (rd_L5 l0 x14_1).length < 17592186044416
   rotate_left
   · rw [if_neg c5] at H
     exact absurd H (by simp)
   rw [if_pos c5] at H
   have LMc5 := Aside0.mk c5
   clear c5
   obtain ⟨y435, hy435⟩ : ∃ y_ : List Int, y_ = (x3_1 ++ (rd_L5 l0 x14_1)) := ⟨_, rfl⟩
   replace H : (walk_Apart.l0 k1 l0 y435 l0 (l0.length : Int) (wrap64 (x14_1 + 1))) = some r := by first | (rw [hy435]; with_reducible exact H) | (have H2_ := (Option.bind_some _ _).symm.trans H; rw [hy435]; with_reducible exact H2_) | (have H2_ := (Option.bind_some _ _).symm.trans H; with_reducible exact H2_) | with_reducible exact H | (rw [hy435]; exact H) | exact H
   have Ny435 := Aside0.mk hy435
   clear hy435
   have H' := Aside0.mk H
   clear H
   have p434 : 0 ≤ (x14_1 : Int) := of_decide_eq_true (by first | (with_reducible assumption) | assumption)
   have q434 : x14_1 < (l0.length : Int) := of_decide_eq_true (by first | (with_reducible assumption) | assumption)
   obtain ⟨ad434, A434_0, c434_0, e434, hx434_0, hl434_0, hi434_0⟩ := at_L5 HR0.out x14_1 p434 q434
   cases e434
   replace hx434_0 := (HB.out.cell (World.block_lt_of_cell? w _ hx434_0)).trans hx434_0
   have HR434_0 := Aside0.mk hi434_0
   have HC434_0 := Aside0.mk hl434_0
   clear hi434_0 hl434_0
   replace p434 := eq_true p434
   replace q434 := eq_true q434
   go_wp2_with (first|((with_reducible refine gate_builtin (b := .append) (xs := #[.tmp 18, .tmp 19]) rfl ?_);at_builtin;refine Kd.R_append_rows (Kd.int .i64) (w0 := w) w.heap.size rfl (.tmp 18) (.tmp 19) 25 3 (.int .i64 0) 8 rfl Try.underlying25 info3 rfl (by decide) (by omega) u3 x3_1 (rd_L5 l0 x14_1) _ _ _ (fun _ => True) (fun _ => False) rfl rfl ?aO ?aR (fun _ _ h => h) (fun _ h => h.elim) ?aF ?aB ?aS ?aL ?_;(case aR => repeat (first|exact (Kd.C_below HR434_0.out HB.out)|(with_reducible refine Kd.C_alloc ?_ _)|(with_reducible refine Kd.C_drewN ?_ _)|(with_reducible refine Kd.C_drew ?_)));(case aB => exact (by repeat (first|(with_reducible first|exact HB.out|apply below_alloc|apply pw_below_drewN|apply below_drew1)|exact HB.out)));(case aF => exact (fun _ _ => trivial));(case aO => exact (by (with_reducible repeat (first|apply Kd.R_alloc|apply Kd.R_drewN|apply Kd.R_drew));exact HO_3.out));(case aS => exact (below_size (by repeat (first|(with_reducible first|exact HB.out|apply below_alloc|apply pw_below_drewN|apply below_drew1)|exact HB.out))));(case aL => have := LMc5.out;omega);intro v436 w6 ho hb hg hat;rw [← Ny435.out] at ho;have n0_ := Aside0.mk (hb);have n1_ := Aside0.mk (ho);clear HB;clear HO_3;have HB := n0_;have HO437 := n1_;clear n0_ n1_;clear ho hb hg hat))
   go_roundg k1
   case measure => have := HK1.out; omega
   case rel => exact ⟨(y435), (wrap64 (x14_1 + 1)), (by first | rfl | (simp; done) | (simp [*]; done)), H', ⟨by have := HK1.out; omega⟩, ⟨by (with_reducible repeat (first | apply Kd.R_alloc | apply Kd.R_drewN | apply Kd.R_drew)); exact HO437.out⟩, ⟨by repeat (first | (with_reducible first | exact HB.out | apply below_alloc | apply pw_below_drewN | apply below_drew1) | exact HB.out)⟩⟩
 rw [if_neg c2] at H
 have c2b0 : decide (x14_1 < (l0.length : Int)) = false := decide_eq_false c2
 clear c2
 replace H := Option.bind_eq_some_iff.mp H
 obtain ⟨t438, A70, H⟩ := H
 replace H : (walk_Apart.l1 k1 t438 l0 (l0.length : Int) 0) = some r := H
 have A7 := Aside0.mk A70
 clear A70
 have H' := Aside0.mk H
 clear H
 obtain ⟨Ao8, co8, eo8⟩ := Kd.R_slice HO_3.out
 subst eo8
 go_wp2_with (first|((with_reducible refine gate_callee (f := 44) rfl ?_);refine goesL_ (some 23) rfl rfl Try.func44 (by kernel_rfl) rfl #[.slice Ao8 x3_1.length co8] rfl (by (try simp only [List.map_toArray, List.map_cons, List.map_nil]);first|done|rfl|(simp only [List.length_drop, List.length_take];rfl)) ?_;(with_reducible refine (slices_Sort_int_int.calls (fun k_ => some k_ = (.slice Ao8 x3_1.length co8 : Value).ownBlock) (.slice Ao8 x3_1.length co8) x3_1 t438 w _ ?side1 ?side2 A7.out).mono ?_);(case side1 => repeat (first|(with_reducible first|exact HB.out|apply below_alloc|apply pw_below_drewN|apply below_drew1)|exact HB.out));(case side2 => exact Kd.R_tight rfl HO_3.out);rintro e w9 ⟨rfl, hy0, hb, hkp⟩;refine ⟨_, rfl, ?_⟩;have n0_ := Aside0.mk (Kd.R_reok rfl hy0 (fun k_ e_ => HO_3.out.1 k_ e_));have n1_ := Aside0.mk (hb);clear HO_3;clear HB;have HO_3 := n0_;have HB := n1_;clear n0_ n1_;(try clear hb);(try clear hkp);(try clear hy0)))
 go_step3
 go_wp2
 go_loopg [26] k1 (fun kq v26 w' => ∃ (x26_2 : Int), v26 = .int .i64 x26_2 ∧ Aside0 (walk_Apart.l1 kq t438 l0 (l0.length : Int) x26_2 = some r) ∧ Aside0 (kq ≤ k1) ∧ Aside0 (Kd.R (Kd.int .i64) 3 w' w.heap.size (fun _ => True) (.slice Ao8 x3_1.length co8) t438) ∧ Aside0 (Below w.heap.size w w'))
 case atStart => exact ⟨(0), (by first | rfl | (simp; done) | (simp [*]; done)), H', ⟨Nat.le_refl _⟩, ⟨by (with_reducible repeat (first | apply Kd.R_alloc | apply Kd.R_drewN | apply Kd.R_drew)); exact HO_3.out⟩, ⟨by repeat (first | (with_reducible first | exact HB.out | apply below_alloc | apply pw_below_drewN | apply below_drew1) | exact HB.out)⟩⟩
 clear H'
 try clear c2
 try clear c2b0
 try clear p2
 try clear c3
 try clear c3b0
 try clear c4
 try clear c4b0
 try clear p4
 try clear q4
 try clear hx4
 try clear c5
 try clear p6
 try clear hx434_0
 try clear p434
 try clear q434
 obtain ⟨x26_2, rfl, HA, HK2, HO_3, HB⟩ := hrel
 have hl3_2 := (Kd.R_reads' HO_3.out).1
 rw [hl3_2] at HO_3
 (try simp only [hl3_2])
 rcases gk with _ | k2
 · exact absurd HA.out (by simp [walk_Apart.l1])
 have H := HA.out
 clear HA
 simp only [walk_Apart.l1] at H
 by_cases c10 : x26_2 < (l0.length : Int)
 rotate_left
 · rw [if_neg c10] at H
   have c10b0 : decide (x26_2 < (l0.length : Int)) = false := decide_eq_false c10
   clear c10
   obtain rfl := Option.some.inj H
   go_wp2
   go_ret
   exact ⟨by first|rfl|(simp [errW_none, errW_some] <;> rfl)|(simp [*, errW_none, errW_some] <;> rfl), by repeat (first|(with_reducible first|exact HB.out|apply below_alloc|apply pw_below_drewN|apply below_drew1)|exact HB.out)⟩
 rw [if_pos c10] at H
 have c10b0 : decide (x26_2 < (l0.length : Int)) = true := decide_eq_true c10
 clear c10
 by_cases c11 : 0 ≤ x26_2
 rotate_left
 · rw [if_neg c11] at H
   exact absurd H (by simp)
 rw [if_pos c11] at H
 have c11b0 : decide (0 ≤ x26_2) = true := decide_eq_true c11
 clear c11
 by_cases c12 : x26_2 < (l0.length : Int)
 rotate_left
 · rw [if_neg c12] at H
   exact absurd H (by simp)
 rw [if_pos c12] at H
 have c12b0 : decide (x26_2 < (l0.length : Int)) = true := decide_eq_true c12
 clear c12
 by_cases c13 : ((rd_L5 l0 x26_2).length : Int) < 3
 · rw [if_pos c13] at H
   have c13b0 : decide (((rd_L5 l0 x26_2).length : Int) < 3) = true := decide_eq_true c13
   have c13b1 : decide ((rd_L5 l0 x26_2).length < 3) = true := decide_eq_true (by omega)
   clear c13
   have H' := Aside0.mk H
   clear H
   have p439 : 0 ≤ (x26_2 : Int) := of_decide_eq_true (by first | (with_reducible assumption) | assumption)
   have q439 : x26_2 < (l0.length : Int) := of_decide_eq_true (by first | (with_reducible assumption) | assumption)
   obtain ⟨ad439, A439_0, c439_0, e439, hx439_0, hl439_0, hi439_0⟩ := at_L5 HR0.out x26_2 p439 q439
   cases e439
   replace hx439_0 := (HB.out.cell (World.block_lt_of_cell? w _ hx439_0)).trans hx439_0
   have HR439_0 := Aside0.mk hi439_0
   have HC439_0 := Aside0.mk hl439_0
   clear hi439_0 hl439_0
   replace p439 := eq_true p439
   replace q439 := eq_true q439
   go_wp2
   (try simp only [← hl3_2])
   go_roundg k2
   case measure => have := HK1.out; have := HK2.out; omega
   exact ⟨(wrap64 (x26_2 + 1)), (by first|rfl|(simp;done)|(simp [*];done)), H', ⟨by have := HK1.out;have := HK2.out;omega⟩, ⟨by (try simp only [hl3_2]);(with_reducible repeat (first|apply Kd.R_alloc|apply Kd.R_drewN|apply Kd.R_drew));exact HO_3.out⟩, ⟨by repeat (first|(with_reducible first|exact HB.out|apply below_alloc|apply pw_below_drewN|apply below_drew1)|exact HB.out)⟩⟩
 rw [if_neg c13] at H
 have c13b0 : decide (((rd_L5 l0 x26_2).length : Int) < 3) = false := decide_eq_false c13
 have c13b1 : decide ((rd_L5 l0 x26_2).length < 3) = false := decide_eq_false (by omega)
 clear c13
 by_cases c14 : 1 ≤ (wrap64 (((rd_L5 l0 x26_2).length : Int) - 1))
 rotate_left
 · rw [if_neg c14] at H
   exact absurd H (by simp)
 rw [if_pos c14] at H
 have c14b0 := eq_true c14
 have c14b1 : decide (1 ≤ (wrap64 (((rd_L5 l0 x26_2).length : Int) - 1))) = true := decide_eq_true c14
 clear c14
 by_cases c15 : (wrap64 (((rd_L5 l0 x26_2).length : Int) - 1)) ≤ ((rd_L5 l0 x26_2).length : Int)
 rotate_left
 · rw [if_neg c15] at H
   exact absurd H (by simp)
 rw [if_pos c15] at H
 have c15b0 := eq_true c15
 have c15b1 : decide ((wrap64 (((rd_L5 l0 x26_2).length : Int) - 1)) ≤ ((rd_L5 l0 x26_2).length : Int)) = true := decide_eq_true c15
 clear c15
 have H' := Aside0.mk H
 clear H
 have p439 : 0 ≤ (x26_2 : Int) := of_decide_eq_true (by first | (with_reducible assumption) | assumption)
 have q439 : x26_2 < (l0.length : Int) := of_decide_eq_true (by first | (with_reducible assumption) | assumption)
 obtain ⟨ad439, A439_0, c439_0, e439, hx439_0, hl439_0, hi439_0⟩ := at_L5 HR0.out x26_2 p439 q439
 cases e439
 replace hx439_0 := (HB.out.cell (World.block_lt_of_cell? w _ hx439_0)).trans hx439_0
 have HR439_0 := Aside0.mk hi439_0
 have HC439_0 := Aside0.mk hl439_0
 clear hi439_0 hl439_0
 replace p439 := eq_true p439
 replace q439 := eq_true q439
 obtain ⟨i016, hi016, _, hsz16, _⟩ := info_parts info3
 obtain ⟨A16, hcut16, hA16, hC16⟩ := print_mid_of (P := Try.prog) (Value.int .i64) 0 25 3 .i64 .i64 Try.underlying25 hi016 hsz16 A439_0 c439_0 (rd_L5 l0 x26_2) 1 (wrap64 (((rd_L5 l0 x26_2).length : Int) - 1)) (by omega) (by first | omega | exact of_decide_eq_true (by first | (with_reducible assumption) | assumption)) (of_decide_eq_true (by first | (with_reducible assumption) | assumption)) HC439_0.out
 have HR440 := Aside0.mk (Kd.C_of_reads (h1 := fun _ => rfl) (hA16 _ (Kd.reads_of_C HR439_0.out)))
 have HC440 := Aside0.mk hC16
 clear hA16 hC16 hi016 hsz16
 obtain ⟨X16, hX16⟩ : ∃ X_ : List Int, (((rd_L5 l0 x26_2).take ((wrap64 (((rd_L5 l0 x26_2).length : Int) - 1)) : Int).toNat).drop 1) = X_ := ⟨_, rfl⟩
 have hX16' : ((rd_L5 l0 x26_2).take (wrap64 (((rd_L5 l0 x26_2).length : Int) - 1)).toNat).drop (1 : Int).toNat = X16 := hX16
 rw [hX16'] at hcut16
 rw [hX16] at H'
 rw [hX16'] at HR440 HC440
 have HX16 := Aside0.mk hX16
 clear hX16 hX16'
 go_wp2
 go_loopg [39] k2 (fun kq v39 w' => ∃ (x39_3 : Int), v39 = .int .i64 x39_3 ∧ Aside0 (walk_Apart.l2 kq t438 l0 (l0.length : Int) x26_2 X16 (X16.length : Int) x39_3 = some r) ∧ Aside0 (kq ≤ k2) ∧ Aside0 (Kd.R (Kd.int .i64) 3 w' w.heap.size (fun _ => True) (.slice Ao8 t438.length co8) t438) ∧ Aside0 (Below w.heap.size w w'))
 case atStart => exact ⟨(0), (by first | rfl | (simp; done) | (simp [*]; done)), H', ⟨Nat.le_refl _⟩, ⟨by (try simp only [hl3_2]); (with_reducible repeat (first | apply Kd.R_alloc | apply Kd.R_drewN | apply Kd.R_drew)); exact HO_3.out⟩, ⟨by repeat (first | (with_reducible first | exact HB.out | apply below_alloc | apply pw_below_drewN | apply below_drew1) | exact HB.out)⟩⟩
 clear H'
 try clear c1
 try clear c2
 try clear c2b0
 try clear p2
 try clear c3
 try clear c3b0
 try clear c4
 try clear c4b0
 try clear p4
 try clear q4
 try clear hx4
 try clear c5
 try clear p6
 try clear c10
 try clear c10b0
 try clear c11
 try clear c11b0
 try clear c12
 try clear c12b0
 try clear c13
 try clear c13b0
 try clear c13b1
 try clear c14
 try clear c14b0
 try clear c14b1
 try clear c15
 try clear c15b0
 try clear c15b1
 try clear hx434_0
 try clear hx439_0
 try clear p2
 try clear p4
 try clear p434
 try clear p439
 try clear p6
 try clear q4
 try clear q434
 try clear q439
 obtain ⟨x39_3, rfl, HA, HK3, HO_3, HB⟩ := hrel
 rcases gk with _ | k3
 · exact absurd HA.out (by simp [walk_Apart.l2])
 have H := HA.out
 clear HA
 simp only [walk_Apart.l2] at H
 by_cases c17 : x39_3 < (X16.length : Int)
 rotate_left
 · rw [if_neg c17] at H
   have c17b0 : decide (x39_3 < (X16.length : Int)) = false := decide_eq_false c17
   clear c17
   have H' := Aside0.mk H
   clear H
   go_wp2
   (try simp only [← hl3_2])
   go_roundg k3
   case measure => have := HK1.out; have := HK2.out; have := HK3.out; omega
   exact ⟨(wrap64 (x26_2 + 1)), (by first|rfl|(simp;done)|(simp [*];done)), H', ⟨by have := HK1.out;have := HK2.out;have := HK3.out;omega⟩, ⟨by (try simp only [hl3_2]);(with_reducible repeat (first|apply Kd.R_alloc|apply Kd.R_drewN|apply Kd.R_drew));exact HO_3.out⟩, ⟨by repeat (first|(with_reducible first|exact HB.out|apply below_alloc|apply pw_below_drewN|apply below_drew1)|exact HB.out)⟩⟩
 rw [if_pos c17] at H
 have c17b0 : decide (x39_3 < (X16.length : Int)) = true := decide_eq_true c17
 clear c17
 by_cases c18 : 0 ≤ x39_3
 rotate_left
 · rw [if_neg c18] at H
   exact absurd H (by simp)
 rw [if_pos c18] at H
 have c18b0 : decide (0 ≤ x39_3) = true := decide_eq_true c18
 clear c18
 by_cases c19 : x39_3 < (X16.length : Int)
 rotate_left
 · rw [if_neg c19] at H
   exact absurd H (by simp)
 rw [if_pos c19] at H
 have c19b0 : decide (x39_3 < (X16.length : Int)) = true := decide_eq_true c19
 clear c19
 replace H := Option.bind_eq_some_iff.mp H
 obtain ⟨⟨t442, t443⟩, A200, H⟩ := H
 replace H : (if (wrap64 (t442 + 1)) < (t438.length : Int) then (if 0 ≤ (wrap64 (t442 + 1)) then (if (rd t438 (wrap64 (t442 + 1))) = (rd X16 x39_3) then (some false) else (walk_Apart.l2 k3 t438 l0 (l0.length : Int) x26_2 X16 (X16.length : Int) (wrap64 (x39_3 + 1)))) else (none)) else (walk_Apart.l2 k3 t438 l0 (l0.length : Int) x26_2 X16 (X16.length : Int) (wrap64 (x39_3 + 1)))) = some r := H
 have A20 := Aside0.mk A200
 clear A200
 by_cases c21 : (wrap64 (t442 + 1)) < (t438.length : Int)
 rotate_left
 · rw [if_neg c21] at H
   have c21b0 : decide ((wrap64 (t442 + 1)) < (t438.length : Int)) = false := decide_eq_false c21
   clear c21
   have H' := Aside0.mk H
   clear H
   have p441 : 0 ≤ (x39_3 : Int) := of_decide_eq_true (by first | (with_reducible assumption) | assumption)
   have q441 : x39_3 < (X16.length : Int) := of_decide_eq_true (by first | (with_reducible assumption) | assumption)
   obtain ⟨ad441, e441, hx441_0⟩ := Kd.at_int HR440.out x39_3 p441 q441
   cases e441
   replace hx441_0 := (HB.out.cell (World.block_lt_of_cell? w _ hx441_0)).trans hx441_0
   replace p441 := eq_true p441
   replace q441 := eq_true q441
   go_wp2_with (first|((with_reducible refine gate_callee (f := 45) rfl ?_);refine goesL_ (some 46) rfl rfl Try.func45 (by kernel_rfl) rfl #[.slice Ao8 t438.length co8, .int .i64 (rd X16 x39_3)] rfl (by (try simp only [List.map_toArray, List.map_cons, List.map_nil]);first|done|rfl|(simp only [List.length_drop, List.length_take];rfl)) ?_;(with_reducible refine (slices_BinarySearch_int_int.calls k3 _ _ t438 (rd X16 x39_3) t442 t443 _ ?side1 ?side2 A20.out).mono ?_);(case side1 => repeat (first|exact (Kd.R_reads' HO_3.out).2.2|(with_reducible refine Kd.C_alloc ?_ _)|(with_reducible refine Kd.C_drewN ?_ _)|(with_reducible refine Kd.C_drew ?_)));(case side2 => exact (Kd.R_reads' HO_3.out).2.1);rintro e w' ⟨rfl, ⟨nd, rfl⟩⟩;refine ⟨_, rfl, ?_⟩))
   go_roundg k3
   case measure => have := HK1.out; have := HK2.out; have := HK3.out; omega
   exact ⟨(wrap64 (x39_3 + 1)), (by first|rfl|(simp;done)|(simp [*];done)), H', ⟨by have := HK1.out;have := HK2.out;have := HK3.out;omega⟩, ⟨by (try simp only [hl3_2]);(with_reducible repeat (first|apply Kd.R_alloc|apply Kd.R_drewN|apply Kd.R_drew));exact HO_3.out⟩, ⟨by repeat (first|(with_reducible first|exact HB.out|apply below_alloc|apply pw_below_drewN|apply below_drew1)|exact HB.out)⟩⟩
 rw [if_pos c21] at H
 have c21b0 : decide ((wrap64 (t442 + 1)) < (t438.length : Int)) = true := decide_eq_true c21
 clear c21
 obtain ⟨ji22, hji22⟩ : ∃ j_ : Int, (wrap64 (t442 + 1)) = j_ := ⟨_, rfl⟩
 replace H : (if 0 ≤ (ji22) then (if (rd t438 (ji22)) = (rd X16 x39_3) then (some false) else (walk_Apart.l2 k3 t438 l0 (l0.length : Int) x26_2 X16 (X16.length : Int) (wrap64 (x39_3 + 1)))) else (none)) = some r := by first | (rw [hji22] at H; exact H) | (simp only [hji22] at H ⊢; exact H)
 (try rw [hji22] at c21b0)
 (try rw [hji22] at A20)
 have hji22w : (IntKind.i64.wrap (t442 + 1)) = ji22 := (i64_w _).trans hji22
 by_cases c23 : 0 ≤ (ji22)
 rotate_left
 · rw [if_neg c23] at H
   exact absurd H (by simp)
 rw [if_pos c23] at H
 have c23b0 : decide (0 ≤ (ji22)) = true := decide_eq_true c23
 clear c23
 by_cases c24 : (rd t438 (ji22)) = (rd X16 x39_3)
 · rw [if_pos c24] at H
   have c24b0 : ((rd t438 (ji22)) == (rd X16 x39_3)) = true := beq_iff_eq.mpr c24
   have c24b1 : ((rd t438 (ji22)) != (rd X16 x39_3)) = false := bne_eq_false_iff_eq.mpr c24
   clear c24
   obtain rfl := Option.some.inj H
   have p441 : 0 ≤ (x39_3 : Int) := of_decide_eq_true (by first | (with_reducible assumption) | assumption)
   have q441 : x39_3 < (X16.length : Int) := of_decide_eq_true (by first | (with_reducible assumption) | assumption)
   obtain ⟨ad441, e441, hx441_0⟩ := Kd.at_int HR440.out x39_3 p441 q441
   cases e441
   replace hx441_0 := (HB.out.cell (World.block_lt_of_cell? w _ hx441_0)).trans hx441_0
   replace p441 := eq_true p441
   replace q441 := eq_true q441
   go_wp2_with (first|((with_reducible refine gate_callee (f := 45) rfl ?_);refine goesL_ (some 46) rfl rfl Try.func45 (by kernel_rfl) rfl #[.slice Ao8 t438.length co8, .int .i64 (rd X16 x39_3)] rfl (by (try simp only [List.map_toArray, List.map_cons, List.map_nil]);first|done|rfl|(simp only [List.length_drop, List.length_take];rfl)) ?_;(with_reducible refine (slices_BinarySearch_int_int.calls k3 _ _ t438 (rd X16 x39_3) t442 t443 _ ?side1 ?side2 A20.out).mono ?_);(case side1 => repeat (first|exact (Kd.R_reads' HO_3.out).2.2|(with_reducible refine Kd.C_alloc ?_ _)|(with_reducible refine Kd.C_drewN ?_ _)|(with_reducible refine Kd.C_drew ?_)));(case side2 => exact (Kd.R_reads' HO_3.out).2.1);rintro e w' ⟨rfl, ⟨nd, rfl⟩⟩;refine ⟨_, rfl, ?_⟩;have p444 : 0 ≤ ((ji22) : Int) := of_decide_eq_true (by first|(with_reducible assumption)|assumption);have q444 : (ji22) < (t438.length : Int) := of_decide_eq_true (by first|(with_reducible assumption)|assumption);obtain ⟨ad444, e444, hx444_0⟩ := Kd.at_int (Kd.R_reads' HO_3.out).2.2 (ji22) p444 q444;cases e444;replace p444 := eq_true p444;replace q444 := eq_true q444))
   go_ret
   exact ⟨by first|rfl|(simp [errW_none, errW_some] <;> rfl)|(simp only [← hji22];first|rfl|(simp [errW_none, errW_some] <;> rfl))|(simp [*, errW_none, errW_some] <;> rfl), by repeat (first|(with_reducible first|exact HB.out|apply below_alloc|apply pw_below_drewN|apply below_drew1)|exact HB.out)⟩
 rw [if_neg c24] at H
 have c24b0 : ((rd t438 (ji22)) == (rd X16 x39_3)) = false := beq_eq_false_iff_ne.mpr c24
 have c24b1 : ((rd t438 (ji22)) != (rd X16 x39_3)) = true := bne_iff_ne.mpr c24
 have H' := Aside0.mk H
 clear H
 have p441 : 0 ≤ (x39_3 : Int) := of_decide_eq_true (by first | (with_reducible assumption) | assumption)
 have q441 : x39_3 < (X16.length : Int) := of_decide_eq_true (by first | (with_reducible assumption) | assumption)
 obtain ⟨ad441, e441, hx441_0⟩ := Kd.at_int HR440.out x39_3 p441 q441
 cases e441
 replace hx441_0 := (HB.out.cell (World.block_lt_of_cell? w _ hx441_0)).trans hx441_0
 replace p441 := eq_true p441
 replace q441 := eq_true q441
 go_wp2_with (first|((with_reducible refine gate_callee (f := 45) rfl ?_);refine goesL_ (some 46) rfl rfl Try.func45 (by kernel_rfl) rfl #[.slice Ao8 t438.length co8, .int .i64 (rd X16 x39_3)] rfl (by (try simp only [List.map_toArray, List.map_cons, List.map_nil]);first|done|rfl|(simp only [List.length_drop, List.length_take];rfl)) ?_;(with_reducible refine (slices_BinarySearch_int_int.calls k3 _ _ t438 (rd X16 x39_3) t442 t443 _ ?side1 ?side2 A20.out).mono ?_);(case side1 => repeat (first|exact (Kd.R_reads' HO_3.out).2.2|(with_reducible refine Kd.C_alloc ?_ _)|(with_reducible refine Kd.C_drewN ?_ _)|(with_reducible refine Kd.C_drew ?_)));(case side2 => exact (Kd.R_reads' HO_3.out).2.1);rintro e w' ⟨rfl, ⟨nd, rfl⟩⟩;refine ⟨_, rfl, ?_⟩;have p444 : 0 ≤ ((ji22) : Int) := of_decide_eq_true (by first|(with_reducible assumption)|assumption);have q444 : (ji22) < (t438.length : Int) := of_decide_eq_true (by first|(with_reducible assumption)|assumption);obtain ⟨ad444, e444, hx444_0⟩ := Kd.at_int (Kd.R_reads' HO_3.out).2.2 (ji22) p444 q444;cases e444;replace p444 := eq_true p444;replace q444 := eq_true q444))
 go_roundg k3
 case measure => have := HK1.out; have := HK2.out; have := HK3.out; omega
 exact ⟨(wrap64 (x39_3 + 1)), (by first|rfl|(simp;done)|(simp [*];done)), H', ⟨by have := HK1.out;have := HK2.out;have := HK3.out;omega⟩, ⟨by (try simp only [hl3_2]);(with_reducible repeat (first|apply Kd.R_alloc|apply Kd.R_drewN|apply Kd.R_drew));exact HO_3.out⟩, ⟨by repeat (first|(with_reducible first|exact HB.out|apply below_alloc|apply pw_below_drewN|apply below_drew1)|exact HB.out)⟩⟩

end Go.Proofs.Ytngglgkemonibaa.P
