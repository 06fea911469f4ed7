-- made by wip/fork.py (a program of this session) out of the translation; Lean checks it
import Derived.Test.YtngglgkemonibaaK0
import Derived.Test.YtngglgkemonibaaF35
import Derived.Test.YtngglgkemonibaaF39
/- flat -/
namespace Go.Proofs.Ytngglgkemonibaa.P
open Go.RowKit Go.Proofs.YtngglgkemonibaaW.PrintWords Go.Proofs.YtngglgkemonibaaW.PrintLast Go.Proofs.YtngglgkemonibaaW.PrintMore
attribute [local go_sem] max2_int min2_int max_two min_two max_three min_three max_four min_four   -- for this text's walks alone
set_option linter.unusedVariables false
set_option linter.unusedSimpArgs false

/-! ### carcanetref05_Turn: function 23 -/
mutual
def carcanetref05_Turn.j0 : Nat → List Int → List Int → Bool → Option (List Int)
  | 0, _, _, _ => none
  | k + 1, x0, x3, x19 => if x19 = true then (some x3) else (carcanetref05_Turn.l0 k x0 x3 (x0.length : Int) 0)
def carcanetref05_Turn.l0 : Nat → List Int → List Int → Int → Int → Option (List Int)
  | 0, _, _, _, _ => none
  | k + 1, x0, x3, x4, x5 => if x5 < x4 then (carcanetref05_Turn.l1 k x0 x3 x4 x5 (([] : List Int)) (([] : List Int)) 0) else (some x3)
def carcanetref05_Turn.l1 : Nat → List Int → List Int → Int → Int → List Int → List Int → Int → Option (List Int)
  | 0, _, _, _, _, _, _, _ => none
  | k + 1, x0, x3, x4, x5, x6, x7, x8 => if x8 < x4 then (if x4 = 0 then (none) else (if 0 ≤ (Int.tmod (wrap64 (x5 + x8)) x4) then (if (Int.tmod (wrap64 (x5 + x8)) x4) < (x0.length : Int) then (if x6.length < 17592186044416 then (if 0 ≤ (Int.tmod (wrap64 ((wrap64 (x5 + x4)) - x8)) x4) then (if (Int.tmod (wrap64 ((wrap64 (x5 + x4)) - x8)) x4) < (x0.length : Int) then (if x7.length < 17592186044416 then (carcanetref05_Turn.l1 k x0 x3 x4 x5 (x6 ++ [rd x0 (Int.tmod (wrap64 (x5 + x8)) x4)]) (x7 ++ [rd x0 (Int.tmod (wrap64 ((wrap64 (x5 + x4)) - x8)) x4)]) (wrap64 (x8 + 1))) else (none)) else (none)) else (none)) else (none)) else (none)) else (none))) else ((carcanetref03_Less.f k x6 x3).bind fun t396 => (if t396 = true then ((carcanetref03_Less.f k x7 x6).bind fun t397 => (if t397 = true then (carcanetref05_Turn.l0 k x0 x7 x4 (wrap64 (x5 + 1))) else (carcanetref05_Turn.l0 k x0 x6 x4 (wrap64 (x5 + 1))))) else ((carcanetref03_Less.f k x7 x3).bind fun t398 => (if t398 = true then (carcanetref05_Turn.l0 k x0 x7 x4 (wrap64 (x5 + 1))) else (carcanetref05_Turn.l0 k x0 x3 x4 (wrap64 (x5 + 1)))))))
end
def carcanetref05_Turn.f (k : Nat) (l0 : List Int) : Option (List Int) := (some (([] : List Int) : List Int)).bind fun y375 => (if y375.length + l0.length < 17592186044416 then ((some (y375 ++ l0 : List Int)).bind fun y378 => (if (l0.length : Int) < 3 then (carcanetref05_Turn.j0 k l0 y378 true) else ((carcanetref05_Unlike.f k l0).bind fun t381 => (carcanetref05_Turn.j0 k l0 y378 (!t381))))) else (none))
set_option maxHeartbeats 8000000 in
set_option maxRecDepth 100000 in
theorem carcanetref05_Turn.calls (k : Nat) (A0 : Option Addr) (c0 : Nat) (l0 : List Int) (r : List Int) (w : World) (hr0 : Kd.C (Kd.int .i64) w A0 l0.length l0) (hc0 : l0.length ≤ c0) (h : carcanetref05_Turn.f k l0 = some r) :
    Calls Try.prog 23 #[.slice A0 l0.length c0] w fun e w' => ∃ v0_ : Value, e = .returned (v0_) ∧ Kd.R (Kd.int .i64) 3 w' w.heap.size (fun _ => True) v0_ r ∧ Below w.heap.size w w' := by
 have HR0 := Aside0.mk hr0
 have HC0 := Aside0.mk hc0
 clear hr0 hc0
 have HB := Aside0.mk (Below.refl w.heap.size w)
 have H : ((some (([] : List Int) : List Int)).bind fun y375 => (if y375.length + l0.length < 17592186044416 then ((some (y375 ++ l0 : List Int)).bind fun y378 => (if (l0.length : Int) < 3 then (carcanetref05_Turn.j0 k l0 y378 true) else ((carcanetref05_Unlike.f k l0).bind fun t381 => (carcanetref05_Turn.j0 k l0 y378 (!t381))))) else (none))) = some r := h
 clear h
 obtain ⟨y375, hy375⟩ : ∃ y_ : List Int, y_ = (([] : List Int)) := ⟨_, rfl⟩
 replace H : (if y375.length + l0.length < 17592186044416 then ((some (y375 ++ l0 : List Int)).bind fun y378 => (if (l0.length : Int) < 3 then (carcanetref05_Turn.j0 k l0 y378 true) else ((carcanetref05_Unlike.f k l0).bind fun t381 => (carcanetref05_Turn.j0 k l0 y378 (!t381))))) else (none)) = some r := by first | (rw [hy375]; with_reducible exact H) | (have H2_ := (Option.bind_some _ _).symm.trans H; rw [hy375]; with_reducible exact H2_) | (have H2_ := (Option.bind_some _ _).symm.trans H; with_reducible exact H2_) | with_reducible exact H | (rw [hy375]; exact H) | exact H
 have Ny375 := Aside0.mk hy375
 clear hy375
 by_cases c2 : y375.length + l0.length < 17592186044416
 rotate_left
 · rw [if_neg c2] at H
   exact absurd H (by simp)
 rw [if_pos c2] at H
 have LMc2 := Aside0.mk c2
 clear c2
 obtain ⟨y378, hy378⟩ : ∃ y_ : List Int, y_ = (y375 ++ l0) := ⟨_, rfl⟩
 replace H : (if (l0.length : Int) < 3 then (carcanetref05_Turn.j0 k l0 y378 true) else ((carcanetref05_Unlike.f k l0).bind fun t381 => (carcanetref05_Turn.j0 k l0 y378 (!t381)))) = some r := by first | (rw [hy378]; with_reducible exact H) | (have H2_ := (Option.bind_some _ _).symm.trans H; rw [hy378]; with_reducible exact H2_) | (have H2_ := (Option.bind_some _ _).symm.trans H; with_reducible exact H2_) | with_reducible exact H | (rw [hy378]; exact H) | exact H
 have Ny378 := Aside0.mk hy378
 clear hy378
 have HC3 := Aside0.mk H
 clear H
 go_enter Try.func23, Try.ntmps23
 go_upto_region 2 with (first | ((with_reducible refine gate_dst (N := 9) rfl ?_); refine Kd.R_lit (Kd.int .i64) _ 3 ?hg (N := 9) ?hd (xs := ([] : List Int)) (inner := []) (ok := fun _ => True) (okp := fun _ => True) ?hr ?hp (fun _ hk => hk) trivial (Below.refl _ _) (Nat.le_refl _) (by simp) ?_; (case hd => rfl); (case hg => rfl); (case hr => first | (go_simp; done) | (go_simp; rfl)); (case hp => exact (Reps.none _ _)); intro v376 w4 ho5 hb hg_ hnew_; clear hg_ hnew_; (first | rw [← Ny375.out] at ho5 | (simp only [Int.reduceToNat] at ho5; rw [← Ny375.out] at ho5)); have n0_ := Aside0.mk (Kd.R_lower ho5 (below_size (by repeat (first | (with_reducible first | exact HB.out | apply below_alloc | apply pw_below_drewN | apply below_drew1) | exact HB.out)))); have n1_ := Aside0.mk (below_step (by repeat (first | (with_reducible first | exact HB.out | apply below_alloc | apply pw_below_drewN | apply below_drew1) | exact HB.out)) hb); clear HB; have HO377 := n0_; have HB := n1_; clear n0_ n1_; clear hb ho5) | ((with_reducible refine gate_builtin (b := .append) (xs := #[.tmp 9, .tmp 10]) rfl ?_); at_builtin; refine Kd.R_append_rows (Kd.int .i64) (w0 := w) w.heap.size rfl (.tmp 9) (.tmp 10) 25 3 (.int .i64 0) 8 rfl Try.underlying25 info3 rfl (by decide) (by omega) v376 y375 l0 _ _ _ (fun _ => True) (fun _ => False) rfl rfl ?aO ?aR (fun _ _ h => h) (fun _ h => h.elim) ?aF ?aB ?aS ?aL ?_; (case aR => repeat (first | exact (Kd.C_below HR0.out HB.out) | (with_reducible refine Kd.C_alloc ?_ _) | (with_reducible refine Kd.C_drewN ?_ _) | (with_reducible refine Kd.C_drew ?_))); (case aB => exact (by repeat (first | (with_reducible first | exact HB.out | apply below_alloc | apply pw_below_drewN | apply below_drew1) | exact HB.out))); (case aF => exact (fun _ _ => trivial)); (case aO => exact (by (with_reducible repeat (first | apply Kd.R_alloc | apply Kd.R_drewN | apply Kd.R_drew)); exact HO377.out)); (case aS => exact (below_size (by repeat (first | (with_reducible first | exact HB.out | apply below_alloc | apply pw_below_drewN | apply below_drew1) | exact HB.out)))); (case aL => have := LMc2.out; omega); intro v379 w6 ho hb hg hat; rw [← Ny378.out] at ho; have n0_ := Aside0.mk (hb); have n1_ := Aside0.mk (ho); clear HB; clear HO377; have HB := n0_; have HO380 := n1_; clear n0_ n1_; clear ho hb hg hat))
 (try simp only [Act.put, List.setIfInBounds_toArray, List.set_cons_zero, List.set_cons_succ])
 go_cut [19] (fun v19 wc => ∃ (kq : Nat) (x19_2 : Bool), v19 = .bool x19_2 ∧ Aside0 (carcanetref05_Turn.j0 kq l0 y378 x19_2 = some r) ∧ Aside0 (kq ≤ k) ∧ Aside0 (Kd.R (Kd.int .i64) 3 wc w.heap.size (fun _ => True) v379 y378) ∧ Aside0 (Below w.heap.size w wc))
 case first =>
  have H := HC3.out
  clear HC3
  by_cases c7 : (l0.length : Int) < 3
  · rw [if_pos c7] at H
    have c7b0 : decide ((l0.length : Int) < 3) = true := decide_eq_true c7
    have c7b1 : decide (l0.length < 3) = true := decide_eq_true (by omega)
    clear c7
    (first | rw [c7b0] | (simp only [i64_w, i32_w]; rw [c7b0]) | skip)
    have H' := Aside0.mk H
    clear H
    go_wp2
    go_meet
    case rel => exact ⟨_, (true), (by first | rfl | (simp; done) | (simp [*]; done)), H', ⟨by first | omega | exact Nat.le_refl _⟩, ⟨by (with_reducible repeat (first | apply Kd.R_alloc | apply Kd.R_drewN | apply Kd.R_drew)); exact HO380.out⟩, ⟨by repeat (first | (with_reducible first | exact HB.out | apply below_alloc | apply pw_below_drewN | apply below_drew1) | exact HB.out)⟩⟩
  rw [if_neg c7] at H
  have c7b0 : decide ((l0.length : Int) < 3) = false := decide_eq_false c7
  have c7b1 : decide (l0.length < 3) = false := decide_eq_false (by omega)
  clear c7
  (first | rw [c7b0] | (simp only [i64_w, i32_w]; rw [c7b0]) | skip)
  replace H := Option.bind_eq_some_iff.mp H
  obtain ⟨t381, A80, H⟩ := H
  replace H : (carcanetref05_Turn.j0 k l0 y378 (!t381)) = some r := H
  have A8 := Aside0.mk A80
  clear A80
  have H' := Aside0.mk H
  clear H
  go_wp2_with (first | (go_at_call 35; (with_reducible refine (carcanetref05_Unlike.calls k _ _ l0 t381 _ ?side1 ?side2 A8.out).mono ?_); (case side1 => repeat (first | exact (Kd.C_below HR0.out HB.out) | (with_reducible refine Kd.C_alloc ?_ _) | (with_reducible refine Kd.C_drewN ?_ _) | (with_reducible refine Kd.C_drew ?_))); (case side2 => exact HC0.out); rintro e w' ⟨rfl, ⟨nd, rfl⟩⟩))
  go_meet
  case rel => exact ⟨_, (!t381), (by first | rfl | (simp; done) | (simp [*]; done)), H', ⟨by first | omega | exact Nat.le_refl _⟩, ⟨by (with_reducible repeat (first | apply Kd.R_alloc | apply Kd.R_drewN | apply Kd.R_drew)); exact HO380.out⟩, ⟨by repeat (first | (with_reducible first | exact HB.out | apply below_alloc | apply pw_below_drewN | apply below_drew1) | exact HB.out)⟩⟩
 clear HC3
 try clear c2
 try clear p2
 try clear c7
 try clear c7b0
 try clear c7b1
 obtain ⟨kq, x19_2, rfl, HA, HJ2, HO_3, HB⟩ := hcut
 rcases kq with _ | kj2
 · exact absurd HA.out (by simp [carcanetref05_Turn.j0])
 have H := HA.out
 clear HA
 simp only [carcanetref05_Turn.j0] at H
 by_cases c9 : x19_2 = true
 · subst c9
   have H1 : (some y378) = some r := by rw [if_pos rfl] at H; exact H
   clear H
   have H := H1
   clear H1
   obtain rfl := Option.some.inj H
   go_wp2
   go_ret
   exact ⟨_, by first | rfl | (simp [errW_none, errW_some] <;> rfl) | (simp [*, errW_none, errW_some] <;> rfl), by (with_reducible repeat (first | apply Kd.R_alloc | apply Kd.R_drewN | apply Kd.R_drew)); exact HO_3.out, by repeat (first | (with_reducible first | exact HB.out | apply below_alloc | apply pw_below_drewN | apply below_drew1) | exact HB.out)⟩
 replace c9 := Bool.eq_false_iff.mpr c9
 subst c9
 have H1 : (carcanetref05_Turn.l0 kj2 l0 y378 (l0.length : Int) 0) = some r := by rw [if_neg (show ¬ (false = true) by decide)] at H; exact H
 clear H
 have H := H1
 clear H1
 have H' := Aside0.mk H
 clear H
 go_wp2
 go_loopg [3, 5] kj2 (fun kq v3 v5 w' => ∃ (x3_2 : List Int) (x5_2 : Int), v5 = .int .i64 x5_2 ∧ Aside0 (carcanetref05_Turn.l0 kq l0 x3_2 (l0.length : Int) x5_2 = some r) ∧ Aside0 (kq ≤ kj2) ∧ Aside0 (Kd.R (Kd.int .i64) 3 w' w.heap.size (fun _ => True) v3 x3_2) ∧ Aside0 (Below w.heap.size w w'))
 case atStart => exact ⟨(y378), (0), (by first | rfl | (simp; done) | (simp [*]; done)), H', ⟨Nat.le_refl _⟩, ⟨by (with_reducible repeat (first | apply Kd.R_alloc | apply Kd.R_drewN | apply Kd.R_drew)); exact HO_3.out⟩, ⟨by repeat (first | (with_reducible first | exact HB.out | apply below_alloc | apply pw_below_drewN | apply below_drew1) | exact HB.out)⟩⟩
 clear H'
 try clear c2
 try clear p2
 try clear c7
 try clear c7b0
 try clear c7b1
 try clear c9
 try clear p2
 obtain ⟨x3_2, x5_2, rfl, HA, HK2, HO_3, HB⟩ := hrel
 rcases gk with _ | k2
 · exact absurd HA.out (by simp [carcanetref05_Turn.l0])
 have H := HA.out
 clear HA
 simp only [carcanetref05_Turn.l0] at H
 by_cases c10 : x5_2 < (l0.length : Int)
 rotate_left
 · rw [if_neg c10] at H
   have c10b0 : decide (x5_2 < (l0.length : Int)) = false := decide_eq_false c10
   clear c10
   obtain rfl := Option.some.inj H
   go_wp2
   go_ret
   exact ⟨_, by first | rfl | (simp [errW_none, errW_some] <;> rfl) | (simp [*, errW_none, errW_some] <;> rfl), by (with_reducible repeat (first | apply Kd.R_alloc | apply Kd.R_drewN | apply Kd.R_drew)); exact HO_3.out, by repeat (first | (with_reducible first | exact HB.out | apply below_alloc | apply pw_below_drewN | apply below_drew1) | exact HB.out)⟩
 rw [if_pos c10] at H
 have c10b0 : decide (x5_2 < (l0.length : Int)) = true := decide_eq_true c10
 clear c10
 obtain ⟨y382, hy382⟩ : ∃ y_ : List Int, y_ = (([] : List Int)) := ⟨_, rfl⟩
 replace H : (carcanetref05_Turn.l1 k2 l0 x3_2 (l0.length : Int) x5_2 y382 (([] : List Int)) 0) = some r := by first | (rw [hy382]; with_reducible exact H) | (have H2_ := (Option.bind_some _ _).symm.trans H; rw [hy382]; with_reducible exact H2_) | (have H2_ := (Option.bind_some _ _).symm.trans H; with_reducible exact H2_) | with_reducible exact H | (rw [hy382]; exact H) | exact H
 have Ny382 := Aside0.mk hy382
 clear hy382
 obtain ⟨y385, hy385⟩ : ∃ y_ : List Int, y_ = (([] : List Int)) := ⟨_, rfl⟩
 replace H : (carcanetref05_Turn.l1 k2 l0 x3_2 (l0.length : Int) x5_2 y382 y385 0) = some r := by first | (rw [hy385]; with_reducible exact H) | (have H2_ := (Option.bind_some _ _).symm.trans H; rw [hy385]; with_reducible exact H2_) | (have H2_ := (Option.bind_some _ _).symm.trans H; with_reducible exact H2_) | with_reducible exact H | (rw [hy385]; exact H) | exact H
 have Ny385 := Aside0.mk hy385
 clear hy385
 have H' := Aside0.mk H
 clear H
 go_wp2_with (first | ((with_reducible refine gate_dst (N := 28) rfl ?_); refine Kd.R_lit (Kd.int .i64) _ 3 ?hg (N := 28) ?hd (xs := ([] : List Int)) (inner := []) (ok := fun _ => True) (okp := fun _ => True) ?hr ?hp (fun _ hk => hk) trivial (Below.refl _ _) (Nat.le_refl _) (by simp) ?_; (case hd => rfl); (case hg => rfl); (case hr => first | (go_simp; done) | (go_simp; rfl)); (case hp => exact (Reps.none _ _)); intro v383 w11 ho12 hb hg_ hnew_; clear hg_ hnew_; (first | rw [← Ny382.out] at ho12 | (simp only [Int.reduceToNat] at ho12; rw [← Ny382.out] at ho12)); have n0_ := Aside0.mk (Kd.R_elder' (by (with_reducible repeat (first | apply Kd.R_alloc | apply Kd.R_drewN | apply Kd.R_drew)); exact HO_3.out) (Kd.R_base ho12) hb); have n1_ := Aside0.mk (Kd.R_lower (Kd.R_new' ho12 (Kd.R_lt (by (with_reducible repeat (first | apply Kd.R_alloc | apply Kd.R_drewN | apply Kd.R_drew)); exact HO_3.out))) (below_size (by repeat (first | (with_reducible first | exact HB.out | apply below_alloc | apply pw_below_drewN | apply below_drew1) | exact HB.out)))); have n2_ := Aside0.mk (below_step (by repeat (first | (with_reducible first | exact HB.out | apply below_alloc | apply pw_below_drewN | apply below_drew1) | exact HB.out)) hb); clear HO_3; clear HB; have HO_3 := n0_; have HO384 := n1_; have HB := n2_; clear n0_ n1_ n2_; clear hb ho12) | ((with_reducible refine gate_dst (N := 29) rfl ?_); refine Kd.R_lit (Kd.int .i64) _ 3 ?hg (N := 29) ?hd (xs := ([] : List Int)) (inner := []) (ok := fun _ => True) (okp := fun _ => True) ?hr ?hp (fun _ hk => hk) trivial (Below.refl _ _) (Nat.le_refl _) (by simp) ?_; (case hd => rfl); (case hg => rfl); (case hr => first | (go_simp; done) | (go_simp; rfl)); (case hp => exact (Reps.none _ _)); intro v386 w13 ho14 hb hg_ hnew_; clear hg_ hnew_; (first | rw [← Ny385.out] at ho14 | (simp only [Int.reduceToNat] at ho14; rw [← Ny385.out] at ho14)); have n0_ := Aside0.mk (Kd.R_elder' (by (with_reducible repeat (first | apply Kd.R_alloc | apply Kd.R_drewN | apply Kd.R_drew)); exact HO_3.out) (Kd.R_base ho14) hb); have n1_ := Aside0.mk (Kd.R_elder' (by (with_reducible repeat (first | apply Kd.R_alloc | apply Kd.R_drewN | apply Kd.R_drew)); exact HO384.out) (Kd.R_base ho14) hb); have n2_ := Aside0.mk (Kd.R_lower (Kd.R_new' (Kd.R_new' ho14 (Kd.R_lt (by (with_reducible repeat (first | apply Kd.R_alloc | apply Kd.R_drewN | apply Kd.R_drew)); exact HO_3.out))) (Kd.R_lt (by (with_reducible repeat (first | apply Kd.R_alloc | apply Kd.R_drewN | apply Kd.R_drew)); exact HO384.out))) (below_size (by repeat (first | (with_reducible first | exact HB.out | apply below_alloc | apply pw_below_drewN | apply below_drew1) | exact HB.out)))); have n3_ := Aside0.mk (below_step (by repeat (first | (with_reducible first | exact HB.out | apply below_alloc | apply pw_below_drewN | apply below_drew1) | exact HB.out)) hb); clear HO_3; clear HO384; clear HB; have HO_3 := n0_; have HO384 := n1_; have HO387 := n2_; have HB := n3_; clear n0_ n1_ n2_ n3_; clear hb ho14))
 go_loopg [6, 7, 8] k2 (fun kq v6 v7 v8 w' => ∃ (x6_3 : List Int) (x7_3 : List Int) (x8_3 : Int), v8 = .int .i64 x8_3 ∧ Aside0 (carcanetref05_Turn.l1 kq l0 x3_2 (l0.length : Int) x5_2 x6_3 x7_3 x8_3 = some r) ∧ Aside0 (kq ≤ k2) ∧ Aside0 (Kd.R (Kd.int .i64) 3 w' w.heap.size (fun k_ => some k_ ≠ (v6 : Value).ownBlock ∧ some k_ ≠ (v7 : Value).ownBlock) u3 x3_2) ∧ Aside0 (Kd.R (Kd.int .i64) 3 w' w.heap.size (fun k_ => some k_ ≠ (u3 : Value).ownBlock ∧ some k_ ≠ (v7 : Value).ownBlock) v6 x6_3) ∧ Aside0 (Kd.R (Kd.int .i64) 3 w' w.heap.size (fun k_ => some k_ ≠ (u3 : Value).ownBlock ∧ some k_ ≠ (v6 : Value).ownBlock) v7 x7_3) ∧ Aside0 (Below w.heap.size w w'))
 case atStart => exact ⟨(y382), (y385), (0), (by first | rfl | (simp; done) | (simp [*]; done)), H', ⟨Nat.le_refl _⟩, ⟨by (with_reducible repeat (first | apply Kd.R_alloc | apply Kd.R_drewN | apply Kd.R_drew)); exact Kd.R_mono HO_3.out (fun _ hk => ⟨hk.1.2, hk.2⟩)⟩, ⟨by (with_reducible repeat (first | apply Kd.R_alloc | apply Kd.R_drewN | apply Kd.R_drew)); exact Kd.R_mono HO384.out (fun _ hk => ⟨hk.1.2, hk.2⟩)⟩, ⟨by (with_reducible repeat (first | apply Kd.R_alloc | apply Kd.R_drewN | apply Kd.R_drew)); exact Kd.R_mono HO387.out (fun _ hk => ⟨hk.1.2, hk.2⟩)⟩, ⟨by repeat (first | (with_reducible first | exact HB.out | apply below_alloc | apply pw_below_drewN | apply below_drew1) | exact HB.out)⟩⟩
 clear H'
 try clear c1
 try clear c2
 try clear p2
 try clear c7
 try clear c7b0
 try clear c7b1
 try clear c9
 try clear c10
 try clear c10b0
 try clear p2
 obtain ⟨x6_3, x7_3, x8_3, rfl, HA, HK3, HO_3, HO_6, HO_7, HB⟩ := hrel
 rcases gk with _ | k3
 · exact absurd HA.out (by simp [carcanetref05_Turn.l1])
 have H := HA.out
 clear HA
 simp only [carcanetref05_Turn.l1] at H
 by_cases c15 : x8_3 < (l0.length : Int)
 · rw [if_pos c15] at H
   have c15b0 : decide (x8_3 < (l0.length : Int)) = true := decide_eq_true c15
   clear c15
   by_cases c16 : (l0.length : Int) = 0
   · rw [if_pos c16] at H
     exact absurd H (by simp)
   rw [if_neg c16] at H
   have c16b0 : ((l0.length : Int) == 0) = false := beq_eq_false_iff_ne.mpr c16
   have c16b1 : ((l0.length : Int) != 0) = true := bne_iff_ne.mpr c16
   have c16b2 : ¬ (l0 = []) := fun h_ => c16 (by rw [h_]; rfl)
   obtain ⟨ji17, hji17⟩ : ∃ j_ : Int, (Int.tmod (wrap64 (x5_2 + x8_3)) (l0.length : Int)) = j_ := ⟨_, rfl⟩
   replace H : (if 0 ≤ (ji17) then (if (ji17) < (l0.length : Int) then (if x6_3.length < 17592186044416 then (if 0 ≤ (Int.tmod (wrap64 ((wrap64 (x5_2 + (l0.length : Int))) - x8_3)) (l0.length : Int)) then (if (Int.tmod (wrap64 ((wrap64 (x5_2 + (l0.length : Int))) - x8_3)) (l0.length : Int)) < (l0.length : Int) then (if x7_3.length < 17592186044416 then (carcanetref05_Turn.l1 k3 l0 x3_2 (l0.length : Int) x5_2 (x6_3 ++ [rd l0 (ji17)]) (x7_3 ++ [rd l0 (Int.tmod (wrap64 ((wrap64 (x5_2 + (l0.length : Int))) - x8_3)) (l0.length : Int))]) (wrap64 (x8_3 + 1))) else (none)) else (none)) else (none)) else (none)) else (none)) else (none)) = some r := by first | (rw [hji17] at H; exact H) | (simp only [hji17] at H ⊢; exact H)
   by_cases c18 : 0 ≤ (ji17)
   rotate_left
   · rw [if_neg c18] at H
     exact absurd H (by simp)
   rw [if_pos c18] at H
   have c18b0 : decide (0 ≤ (ji17)) = true := decide_eq_true c18
   clear c18
   by_cases c19 : (ji17) < (l0.length : Int)
   rotate_left
   · rw [if_neg c19] at H
     exact absurd H (by simp)
   rw [if_pos c19] at H
   have c19b0 : decide ((ji17) < (l0.length : Int)) = true := decide_eq_true c19
   clear c19
   by_cases c20 : x6_3.length < 17592186044416
   rotate_left
   · rw [if_neg c20] at H
     exact absurd H (by simp)
   rw [if_pos c20] at H
   have LMc20 := Aside0.mk c20
   clear c20
   obtain ⟨y389, hy389⟩ : ∃ y_ : List Int, y_ = (x6_3 ++ [rd l0 (ji17)]) := ⟨_, rfl⟩
   replace H : (if 0 ≤ (Int.tmod (wrap64 ((wrap64 (x5_2 + (l0.length : Int))) - x8_3)) (l0.length : Int)) then (if (Int.tmod (wrap64 ((wrap64 (x5_2 + (l0.length : Int))) - x8_3)) (l0.length : Int)) < (l0.length : Int) then (if x7_3.length < 17592186044416 then (carcanetref05_Turn.l1 k3 l0 x3_2 (l0.length : Int) x5_2 y389 (x7_3 ++ [rd l0 (Int.tmod (wrap64 ((wrap64 (x5_2 + (l0.length : Int))) - x8_3)) (l0.length : Int))]) (wrap64 (x8_3 + 1))) else (none)) else (none)) else (none)) = some r := by first | (rw [hy389]; with_reducible exact H) | (have H2_ := (Option.bind_some _ _).symm.trans H; rw [hy389]; with_reducible exact H2_) | (have H2_ := (Option.bind_some _ _).symm.trans H; with_reducible exact H2_) | with_reducible exact H | (rw [hy389]; exact H) | exact H
   have Ny389 := Aside0.mk hy389
   clear hy389
   obtain ⟨ji21, hji21⟩ : ∃ j_ : Int, (Int.tmod (wrap64 ((wrap64 (x5_2 + (l0.length : Int))) - x8_3)) (l0.length : Int)) = j_ := ⟨_, rfl⟩
   replace H : (if 0 ≤ (ji21) then (if (ji21) < (l0.length : Int) then (if x7_3.length < 17592186044416 then (carcanetref05_Turn.l1 k3 l0 x3_2 (l0.length : Int) x5_2 y389 (x7_3 ++ [rd l0 (ji21)]) (wrap64 (x8_3 + 1))) else (none)) else (none)) else (none)) = some r := by first | (rw [hji21] at H; exact H) | (simp only [hji21] at H ⊢; exact H)
   by_cases c22 : 0 ≤ (ji21)
   rotate_left
   · rw [if_neg c22] at H
     exact absurd H (by simp)
   rw [if_pos c22] at H
   have c22b0 : decide (0 ≤ (ji21)) = true := decide_eq_true c22
   clear c22
   by_cases c23 : (ji21) < (l0.length : Int)
   rotate_left
   · rw [if_neg c23] at H
     exact absurd H (by simp)
   rw [if_pos c23] at H
   have c23b0 : decide ((ji21) < (l0.length : Int)) = true := decide_eq_true c23
   clear c23
   by_cases c24 : x7_3.length < 17592186044416
   rotate_left
   · rw [if_neg c24] at H
     exact absurd H (by simp)
   rw [if_pos c24] at H
   have LMc24 := Aside0.mk c24
   clear c24
   obtain ⟨y393, hy393⟩ : ∃ y_ : List Int, y_ = (x7_3 ++ [rd l0 (ji21)]) := ⟨_, rfl⟩
   replace H : (carcanetref05_Turn.l1 k3 l0 x3_2 (l0.length : Int) x5_2 y389 y393 (wrap64 (x8_3 + 1))) = some r := by first | (rw [hy393]; with_reducible exact H) | (have H2_ := (Option.bind_some _ _).symm.trans H; rw [hy393]; with_reducible exact H2_) | (have H2_ := (Option.bind_some _ _).symm.trans H; with_reducible exact H2_) | with_reducible exact H | (rw [hy393]; exact H) | exact H
   have Ny393 := Aside0.mk hy393
   clear hy393
   have H' := Aside0.mk H
   clear H
   have p388 : 0 ≤ ((ji17) : Int) := of_decide_eq_true (by first | (with_reducible assumption) | assumption)
   have q388 : (ji17) < (l0.length : Int) := of_decide_eq_true (by first | (with_reducible assumption) | assumption)
   obtain ⟨ad388, e388, hx388_0⟩ := Kd.at_int HR0.out (ji17) p388 q388
   cases e388
   replace hx388_0 := (HB.out.cell (World.block_lt_of_cell? w _ hx388_0)).trans hx388_0
   replace p388 := eq_true p388
   replace q388 := eq_true q388
   go_wp2_with (first | ((with_reducible refine gate_builtin (b := .append) (xs := #[.tmp 35, .tmp 44]) rfl ?_); at_builtin; refine Kd.R_append (Kd.int .i64) (w0 := w) w.heap.size rfl (.tmp 35) (.tmp 44) 25 3 (.int .i64 0) 8 rfl Try.underlying25 info3 rfl (by decide) (by omega) u6 x6_3 (rd l0 (ji17)) [.int .i64 (rd l0 (ji17))] (fun k_ => some k_ ≠ (u3 : Value).ownBlock ∧ some k_ ≠ (u7 : Value).ownBlock) (fun _ => False) rfl rfl ?aP (fun _ hk => hk.elim) ?aF ?aO ?aB ?aS ?aL ?_; (case aP => exact rfl); (case aB => exact (by repeat (first | (with_reducible first | exact HB.out | apply below_alloc | apply pw_below_drewN | apply below_drew1) | exact HB.out))); (case aF => exact (fun k_ hk => ⟨Kd.fresh' (Kd.R_lt (by (with_reducible repeat (first | apply Kd.R_alloc | apply Kd.R_drewN | apply Kd.R_drew)); exact HO_3.out)) k_ hk, Kd.fresh' (Kd.R_lt (by (with_reducible repeat (first | apply Kd.R_alloc | apply Kd.R_drewN | apply Kd.R_drew)); exact HO_7.out)) k_ hk⟩)); (case aO => exact (by (with_reducible repeat (first | apply Kd.R_alloc | apply Kd.R_drewN | apply Kd.R_drew)); exact HO_6.out)); (case aS => exact (below_size (by repeat (first | (with_reducible first | exact HB.out | apply below_alloc | apply pw_below_drewN | apply below_drew1) | exact HB.out)))); (case aL => have := LMc20.out; omega); intro v390 w25 ho hb hg hat; rw [← Ny389.out] at ho; have n0_ := Aside0.mk (Kd.R_after (ok := (fun k_ => some k_ ≠ (u7 : Value).ownBlock)) (by (with_reducible repeat (first | apply Kd.R_alloc | apply Kd.R_drewN | apply Kd.R_drew)); exact Kd.R_mono HO_3.out (fun _ hk => ⟨hk.2, hk.1⟩)) hg hat); have n1_ := Aside0.mk (Kd.R_after (ok := (fun k_ => some k_ ≠ (u3 : Value).ownBlock)) (by (with_reducible repeat (first | apply Kd.R_alloc | apply Kd.R_drewN | apply Kd.R_drew)); exact HO_7.out) hg hat); have n2_ := Aside0.mk (hb); have n3_ := Aside0.mk (ho); clear HO_3; clear HO_7; clear HB; clear HO_6; have HO_3 := n0_; have HO_7 := n1_; have HB := n2_; have HO391 := n3_; clear n0_ n1_ n2_ n3_; clear ho hb hg hat; have p392 : 0 ≤ ((ji21) : Int) := of_decide_eq_true (by first | (with_reducible assumption) | assumption); have q392 : (ji21) < (l0.length : Int) := of_decide_eq_true (by first | (with_reducible assumption) | assumption); obtain ⟨ad392, e392, hx392_0⟩ := Kd.at_int HR0.out (ji21) p392 q392; obtain rfl : ad388 = ad392 := (by injection e392); replace hx392_0 := (HB.out.cell (World.block_lt_of_cell? w _ hx392_0)).trans hx392_0; replace p392 := eq_true p392; replace q392 := eq_true q392) | ((with_reducible refine gate_builtin (b := .append) (xs := #[.tmp 46, .tmp 57]) rfl ?_); at_builtin; refine Kd.R_append (Kd.int .i64) (w0 := w) w.heap.size rfl (.tmp 46) (.tmp 57) 25 3 (.int .i64 0) 8 rfl Try.underlying25 info3 rfl (by decide) (by omega) u7 x7_3 (rd l0 (ji21)) [.int .i64 (rd l0 (ji21))] (fun k_ => some k_ ≠ (u3 : Value).ownBlock ∧ some k_ ≠ (v390 : Value).ownBlock) (fun _ => False) rfl rfl ?aP (fun _ hk => hk.elim) ?aF ?aO ?aB ?aS ?aL ?_; (case aP => exact rfl); (case aB => exact (by repeat (first | (with_reducible first | exact HB.out | apply below_alloc | apply pw_below_drewN | apply below_drew1) | exact HB.out))); (case aF => exact (fun k_ hk => ⟨Kd.fresh' (Kd.R_lt (by (with_reducible repeat (first | apply Kd.R_alloc | apply Kd.R_drewN | apply Kd.R_drew)); exact HO_3.out)) k_ hk, Kd.fresh' (Kd.R_lt (by (with_reducible repeat (first | apply Kd.R_alloc | apply Kd.R_drewN | apply Kd.R_drew)); exact HO391.out)) k_ hk⟩)); (case aO => exact (by (with_reducible repeat (first | apply Kd.R_alloc | apply Kd.R_drewN | apply Kd.R_drew)); exact HO_7.out)); (case aS => exact (below_size (by repeat (first | (with_reducible first | exact HB.out | apply below_alloc | apply pw_below_drewN | apply below_drew1) | exact HB.out)))); (case aL => have := LMc24.out; omega); intro v394 w26 ho hb hg hat; rw [← Ny393.out] at ho; have n0_ := Aside0.mk (Kd.R_after (ok := (fun k_ => some k_ ≠ (v390 : Value).ownBlock)) (by (with_reducible repeat (first | apply Kd.R_alloc | apply Kd.R_drewN | apply Kd.R_drew)); exact Kd.R_mono HO_3.out (fun _ hk => ⟨hk.2, hk.1⟩)) hg hat); have n1_ := Aside0.mk (Kd.R_after (ok := (fun k_ => some k_ ≠ (u3 : Value).ownBlock)) (by (with_reducible repeat (first | apply Kd.R_alloc | apply Kd.R_drewN | apply Kd.R_drew)); exact HO391.out) hg hat); have n2_ := Aside0.mk (hb); have n3_ := Aside0.mk (ho); clear HO_3; clear HO391; clear HB; clear HO_7; have HO_3 := n0_; have HO391 := n1_; have HB := n2_; have HO395 := n3_; clear n0_ n1_ n2_ n3_; clear ho hb hg hat))
   go_roundg k3
   case measure => have := HJ2.out; have := HK2.out; have := HK3.out; omega
   exact ⟨(y389), (y393), (wrap64 (x8_3 + 1)), (by first | rfl | (simp; done) | (simp [*]; done)), H', ⟨by have := HJ2.out; have := HK2.out; have := HK3.out; omega⟩, ⟨by (with_reducible repeat (first | apply Kd.R_alloc | apply Kd.R_drewN | apply Kd.R_drew)); exact HO_3.out⟩, ⟨by (with_reducible repeat (first | apply Kd.R_alloc | apply Kd.R_drewN | apply Kd.R_drew)); exact HO391.out⟩, ⟨by (with_reducible repeat (first | apply Kd.R_alloc | apply Kd.R_drewN | apply Kd.R_drew)); exact HO395.out⟩, ⟨by repeat (first | (with_reducible first | exact HB.out | apply below_alloc | apply pw_below_drewN | apply below_drew1) | exact HB.out)⟩⟩
 rw [if_neg c15] at H
 have c15b0 : decide (x8_3 < (l0.length : Int)) = false := decide_eq_false c15
 clear c15
 replace H := Option.bind_eq_some_iff.mp H
 obtain ⟨t396, A270, H⟩ := H
 replace H : (if t396 = true then ((carcanetref03_Less.f k3 x7_3 x6_3).bind fun t397 => (if t397 = true then (carcanetref05_Turn.l0 k3 l0 x7_3 (l0.length : Int) (wrap64 (x5_2 + 1))) else (carcanetref05_Turn.l0 k3 l0 x6_3 (l0.length : Int) (wrap64 (x5_2 + 1))))) else ((carcanetref03_Less.f k3 x7_3 x3_2).bind fun t398 => (if t398 = true then (carcanetref05_Turn.l0 k3 l0 x7_3 (l0.length : Int) (wrap64 (x5_2 + 1))) else (carcanetref05_Turn.l0 k3 l0 x3_2 (l0.length : Int) (wrap64 (x5_2 + 1)))))) = some r := H
 have A27 := Aside0.mk A270
 clear A270
 by_cases c28 : t396 = true
 · subst c28
   have H1 : ((carcanetref03_Less.f k3 x7_3 x6_3).bind fun t397 => (if t397 = true then (carcanetref05_Turn.l0 k3 l0 x7_3 (l0.length : Int) (wrap64 (x5_2 + 1))) else (carcanetref05_Turn.l0 k3 l0 x6_3 (l0.length : Int) (wrap64 (x5_2 + 1))))) = some r := by rw [if_pos rfl] at H; exact H
   clear H
   have H := H1
   clear H1
   replace H := Option.bind_eq_some_iff.mp H
   obtain ⟨t397, A290, H⟩ := H
   replace H : (if t397 = true then (carcanetref05_Turn.l0 k3 l0 x7_3 (l0.length : Int) (wrap64 (x5_2 + 1))) else (carcanetref05_Turn.l0 k3 l0 x6_3 (l0.length : Int) (wrap64 (x5_2 + 1)))) = some r := H
   have A29 := Aside0.mk A290
   clear A290
   by_cases c30 : t397 = true
   · subst c30
     have H1 : (carcanetref05_Turn.l0 k3 l0 x7_3 (l0.length : Int) (wrap64 (x5_2 + 1))) = some r := by rw [if_pos rfl] at H; exact H
     clear H
     have H := H1
     clear H1
     have H' := Aside0.mk H
     clear H
     obtain ⟨Ao31, co31, eo31⟩ := Kd.R_slice HO_6.out
     subst eo31
     obtain ⟨Ao32, co32, eo32⟩ := Kd.R_slice HO_3.out
     subst eo32
     go_wp2_with (first | ((with_reducible refine gate_callee (f := 39) rfl ?_); refine goesL_ (some 61) rfl rfl Try.func39 (by kernel_rfl) rfl #[.slice Ao31 x6_3.length co31, .slice Ao32 x3_2.length co32] rfl (by (try simp only [List.map_toArray, List.map_cons, List.map_nil]); first | done | rfl | (simp only [List.length_drop, List.length_take]; rfl)) ?_; (with_reducible refine (carcanetref03_Less.calls k3 _ _ x6_3 _ _ x3_2 true _ ?side1 ?side2 ?side3 ?side4 A27.out).mono ?_); (case side1 => repeat (first | exact (Kd.R_reads' HO_6.out).2.2 | (with_reducible refine Kd.C_alloc ?_ _) | (with_reducible refine Kd.C_drewN ?_ _) | (with_reducible refine Kd.C_drew ?_))); (case side2 => exact (Kd.R_reads' HO_6.out).2.1); (case side3 => repeat (first | exact (Kd.R_reads' HO_3.out).2.2 | (with_reducible refine Kd.C_alloc ?_ _) | (with_reducible refine Kd.C_drewN ?_ _) | (with_reducible refine Kd.C_drew ?_))); (case side4 => exact (Kd.R_reads' HO_3.out).2.1); rintro e w' ⟨rfl, ⟨nd, rfl⟩⟩; refine ⟨_, rfl, ?_⟩; obtain ⟨Ao33, co33, eo33⟩ := Kd.R_slice HO_7.out; subst eo33) | ((with_reducible refine gate_callee (f := 39) rfl ?_); refine goesL_ (some 65) rfl rfl Try.func39 (by kernel_rfl) rfl #[.slice Ao33 x7_3.length co33, .slice Ao31 x6_3.length co31] rfl (by (try simp only [List.map_toArray, List.map_cons, List.map_nil]); first | done | rfl | (simp only [List.length_drop, List.length_take]; rfl)) ?_; (with_reducible refine (carcanetref03_Less.calls k3 _ _ x7_3 _ _ x6_3 true _ ?side1 ?side2 ?side3 ?side4 A29.out).mono ?_); (case side1 => repeat (first | exact (Kd.R_reads' HO_7.out).2.2 | (with_reducible refine Kd.C_alloc ?_ _) | (with_reducible refine Kd.C_drewN ?_ _) | (with_reducible refine Kd.C_drew ?_))); (case side2 => exact (Kd.R_reads' HO_7.out).2.1); (case side3 => repeat (first | exact (Kd.R_reads' HO_6.out).2.2 | (with_reducible refine Kd.C_alloc ?_ _) | (with_reducible refine Kd.C_drewN ?_ _) | (with_reducible refine Kd.C_drew ?_))); (case side4 => exact (Kd.R_reads' HO_6.out).2.1); rintro e w' ⟨rfl, ⟨nd, rfl⟩⟩; refine ⟨_, rfl, ?_⟩))
     go_roundg k3
     case measure => have := HJ2.out; have := HK2.out; have := HK3.out; omega
     exact ⟨(x7_3), (wrap64 (x5_2 + 1)), (by first | rfl | (simp; done) | (simp [*]; done)), H', ⟨by have := HJ2.out; have := HK2.out; have := HK3.out; omega⟩, ⟨by (with_reducible repeat (first | apply Kd.R_alloc | apply Kd.R_drewN | apply Kd.R_drew)); exact Kd.R_mono HO_7.out (fun _ hk => trivial)⟩, ⟨by repeat (first | (with_reducible first | exact HB.out | apply below_alloc | apply pw_below_drewN | apply below_drew1) | exact HB.out)⟩⟩
   replace c30 := Bool.eq_false_iff.mpr c30
   subst c30
   have H1 : (carcanetref05_Turn.l0 k3 l0 x6_3 (l0.length : Int) (wrap64 (x5_2 + 1))) = some r := by rw [if_neg (show ¬ (false = true) by decide)] at H; exact H
   clear H
   have H := H1
   clear H1
   have H' := Aside0.mk H
   clear H
   obtain ⟨Ao34, co34, eo34⟩ := Kd.R_slice HO_6.out
   subst eo34
   obtain ⟨Ao35, co35, eo35⟩ := Kd.R_slice HO_3.out
   subst eo35
   go_wp2_with (first | ((with_reducible refine gate_callee (f := 39) rfl ?_); refine goesL_ (some 61) rfl rfl Try.func39 (by kernel_rfl) rfl #[.slice Ao34 x6_3.length co34, .slice Ao35 x3_2.length co35] rfl (by (try simp only [List.map_toArray, List.map_cons, List.map_nil]); first | done | rfl | (simp only [List.length_drop, List.length_take]; rfl)) ?_; (with_reducible refine (carcanetref03_Less.calls k3 _ _ x6_3 _ _ x3_2 true _ ?side1 ?side2 ?side3 ?side4 A27.out).mono ?_); (case side1 => repeat (first | exact (Kd.R_reads' HO_6.out).2.2 | (with_reducible refine Kd.C_alloc ?_ _) | (with_reducible refine Kd.C_drewN ?_ _) | (with_reducible refine Kd.C_drew ?_))); (case side2 => exact (Kd.R_reads' HO_6.out).2.1); (case side3 => repeat (first | exact (Kd.R_reads' HO_3.out).2.2 | (with_reducible refine Kd.C_alloc ?_ _) | (with_reducible refine Kd.C_drewN ?_ _) | (with_reducible refine Kd.C_drew ?_))); (case side4 => exact (Kd.R_reads' HO_3.out).2.1); rintro e w' ⟨rfl, ⟨nd, rfl⟩⟩; refine ⟨_, rfl, ?_⟩; obtain ⟨Ao36, co36, eo36⟩ := Kd.R_slice HO_7.out; subst eo36) | ((with_reducible refine gate_callee (f := 39) rfl ?_); refine goesL_ (some 65) rfl rfl Try.func39 (by kernel_rfl) rfl #[.slice Ao36 x7_3.length co36, .slice Ao34 x6_3.length co34] rfl (by (try simp only [List.map_toArray, List.map_cons, List.map_nil]); first | done | rfl | (simp only [List.length_drop, List.length_take]; rfl)) ?_; (with_reducible refine (carcanetref03_Less.calls k3 _ _ x7_3 _ _ x6_3 false _ ?side1 ?side2 ?side3 ?side4 A29.out).mono ?_); (case side1 => repeat (first | exact (Kd.R_reads' HO_7.out).2.2 | (with_reducible refine Kd.C_alloc ?_ _) | (with_reducible refine Kd.C_drewN ?_ _) | (with_reducible refine Kd.C_drew ?_))); (case side2 => exact (Kd.R_reads' HO_7.out).2.1); (case side3 => repeat (first | exact (Kd.R_reads' HO_6.out).2.2 | (with_reducible refine Kd.C_alloc ?_ _) | (with_reducible refine Kd.C_drewN ?_ _) | (with_reducible refine Kd.C_drew ?_))); (case side4 => exact (Kd.R_reads' HO_6.out).2.1); rintro e w' ⟨rfl, ⟨nd, rfl⟩⟩; refine ⟨_, rfl, ?_⟩))
   go_roundg k3
   case measure => have := HJ2.out; have := HK2.out; have := HK3.out; omega
   exact ⟨(x6_3), (wrap64 (x5_2 + 1)), (by first | rfl | (simp; done) | (simp [*]; done)), H', ⟨by have := HJ2.out; have := HK2.out; have := HK3.out; omega⟩, ⟨by (with_reducible repeat (first | apply Kd.R_alloc | apply Kd.R_drewN | apply Kd.R_drew)); exact Kd.R_mono HO_6.out (fun _ hk => trivial)⟩, ⟨by repeat (first | (with_reducible first | exact HB.out | apply below_alloc | apply pw_below_drewN | apply below_drew1) | exact HB.out)⟩⟩
 replace c28 := Bool.eq_false_iff.mpr c28
 subst c28
 have H1 : ((carcanetref03_Less.f k3 x7_3 x3_2).bind fun t398 => (if t398 = true then (carcanetref05_Turn.l0 k3 l0 x7_3 (l0.length : Int) (wrap64 (x5_2 + 1))) else (carcanetref05_Turn.l0 k3 l0 x3_2 (l0.length : Int) (wrap64 (x5_2 + 1))))) = some r := by rw [if_neg (show ¬ (false = true) by decide)] at H; exact H
 clear H
 have H := H1
 clear H1
 replace H := Option.bind_eq_some_iff.mp H
 obtain ⟨t398, A370, H⟩ := H
 replace H : (if t398 = true then (carcanetref05_Turn.l0 k3 l0 x7_3 (l0.length : Int) (wrap64 (x5_2 + 1))) else (carcanetref05_Turn.l0 k3 l0 x3_2 (l0.length : Int) (wrap64 (x5_2 + 1)))) = some r := H
 have A37 := Aside0.mk A370
 clear A370
 by_cases c38 : t398 = true
 · subst c38
   have H1 : (carcanetref05_Turn.l0 k3 l0 x7_3 (l0.length : Int) (wrap64 (x5_2 + 1))) = some r := by rw [if_pos rfl] at H; exact H
   clear H
   have H := H1
   clear H1
   have H' := Aside0.mk H
   clear H
   obtain ⟨Ao39, co39, eo39⟩ := Kd.R_slice HO_6.out
   subst eo39
   obtain ⟨Ao40, co40, eo40⟩ := Kd.R_slice HO_3.out
   subst eo40
   go_wp2_with (first | ((with_reducible refine gate_callee (f := 39) rfl ?_); refine goesL_ (some 61) rfl rfl Try.func39 (by kernel_rfl) rfl #[.slice Ao39 x6_3.length co39, .slice Ao40 x3_2.length co40] rfl (by (try simp only [List.map_toArray, List.map_cons, List.map_nil]); first | done | rfl | (simp only [List.length_drop, List.length_take]; rfl)) ?_; (with_reducible refine (carcanetref03_Less.calls k3 _ _ x6_3 _ _ x3_2 false _ ?side1 ?side2 ?side3 ?side4 A27.out).mono ?_); (case side1 => repeat (first | exact (Kd.R_reads' HO_6.out).2.2 | (with_reducible refine Kd.C_alloc ?_ _) | (with_reducible refine Kd.C_drewN ?_ _) | (with_reducible refine Kd.C_drew ?_))); (case side2 => exact (Kd.R_reads' HO_6.out).2.1); (case side3 => repeat (first | exact (Kd.R_reads' HO_3.out).2.2 | (with_reducible refine Kd.C_alloc ?_ _) | (with_reducible refine Kd.C_drewN ?_ _) | (with_reducible refine Kd.C_drew ?_))); (case side4 => exact (Kd.R_reads' HO_3.out).2.1); rintro e w' ⟨rfl, ⟨nd, rfl⟩⟩; refine ⟨_, rfl, ?_⟩; obtain ⟨Ao41, co41, eo41⟩ := Kd.R_slice HO_7.out; subst eo41) | ((with_reducible refine gate_callee (f := 39) rfl ?_); refine goesL_ (some 65) rfl rfl Try.func39 (by kernel_rfl) rfl #[.slice Ao41 x7_3.length co41, .slice Ao40 x3_2.length co40] rfl (by (try simp only [List.map_toArray, List.map_cons, List.map_nil]); first | done | rfl | (simp only [List.length_drop, List.length_take]; rfl)) ?_; (with_reducible refine (carcanetref03_Less.calls k3 _ _ x7_3 _ _ x3_2 true _ ?side1 ?side2 ?side3 ?side4 A37.out).mono ?_); (case side1 => repeat (first | exact (Kd.R_reads' HO_7.out).2.2 | (with_reducible refine Kd.C_alloc ?_ _) | (with_reducible refine Kd.C_drewN ?_ _) | (with_reducible refine Kd.C_drew ?_))); (case side2 => exact (Kd.R_reads' HO_7.out).2.1); (case side3 => repeat (first | exact (Kd.R_reads' HO_3.out).2.2 | (with_reducible refine Kd.C_alloc ?_ _) | (with_reducible refine Kd.C_drewN ?_ _) | (with_reducible refine Kd.C_drew ?_))); (case side4 => exact (Kd.R_reads' HO_3.out).2.1); rintro e w' ⟨rfl, ⟨nd, rfl⟩⟩; refine ⟨_, rfl, ?_⟩))
   go_roundg k3
   case measure => have := HJ2.out; have := HK2.out; have := HK3.out; omega
   exact ⟨(x7_3), (wrap64 (x5_2 + 1)), (by first | rfl | (simp; done) | (simp [*]; done)), H', ⟨by have := HJ2.out; have := HK2.out; have := HK3.out; omega⟩, ⟨by (with_reducible repeat (first | apply Kd.R_alloc | apply Kd.R_drewN | apply Kd.R_drew)); exact Kd.R_mono HO_7.out (fun _ hk => trivial)⟩, ⟨by repeat (first | (with_reducible first | exact HB.out | apply below_alloc | apply pw_below_drewN | apply below_drew1) | exact HB.out)⟩⟩
 replace c38 := Bool.eq_false_iff.mpr c38
 subst c38
 have H1 : (carcanetref05_Turn.l0 k3 l0 x3_2 (l0.length : Int) (wrap64 (x5_2 + 1))) = some r := by rw [if_neg (show ¬ (false = true) by decide)] at H; exact H
 clear H
 have H := H1
 clear H1
 have H' := Aside0.mk H
 clear H
 obtain ⟨Ao42, co42, eo42⟩ := Kd.R_slice HO_6.out
 subst eo42
 obtain ⟨Ao43, co43, eo43⟩ := Kd.R_slice HO_3.out
 subst eo43
 go_wp2_with (first | ((with_reducible refine gate_callee (f := 39) rfl ?_); refine goesL_ (some 61) rfl rfl Try.func39 (by kernel_rfl) rfl #[.slice Ao42 x6_3.length co42, .slice Ao43 x3_2.length co43] rfl (by (try simp only [List.map_toArray, List.map_cons, List.map_nil]); first | done | rfl | (simp only [List.length_drop, List.length_take]; rfl)) ?_; (with_reducible refine (carcanetref03_Less.calls k3 _ _ x6_3 _ _ x3_2 false _ ?side1 ?side2 ?side3 ?side4 A27.out).mono ?_); (case side1 => repeat (first | exact (Kd.R_reads' HO_6.out).2.2 | (with_reducible refine Kd.C_alloc ?_ _) | (with_reducible refine Kd.C_drewN ?_ _) | (with_reducible refine Kd.C_drew ?_))); (case side2 => exact (Kd.R_reads' HO_6.out).2.1); (case side3 => repeat (first | exact (Kd.R_reads' HO_3.out).2.2 | (with_reducible refine Kd.C_alloc ?_ _) | (with_reducible refine Kd.C_drewN ?_ _) | (with_reducible refine Kd.C_drew ?_))); (case side4 => exact (Kd.R_reads' HO_3.out).2.1); rintro e w' ⟨rfl, ⟨nd, rfl⟩⟩; refine ⟨_, rfl, ?_⟩; obtain ⟨Ao44, co44, eo44⟩ := Kd.R_slice HO_7.out; subst eo44) | ((with_reducible refine gate_callee (f := 39) rfl ?_); refine goesL_ (some 65) rfl rfl Try.func39 (by kernel_rfl) rfl #[.slice Ao44 x7_3.length co44, .slice Ao43 x3_2.length co43] rfl (by (try simp only [List.map_toArray, List.map_cons, List.map_nil]); first | done | rfl | (simp only [List.length_drop, List.length_take]; rfl)) ?_; (with_reducible refine (carcanetref03_Less.calls k3 _ _ x7_3 _ _ x3_2 false _ ?side1 ?side2 ?side3 ?side4 A37.out).mono ?_); (case side1 => repeat (first | exact (Kd.R_reads' HO_7.out).2.2 | (with_reducible refine Kd.C_alloc ?_ _) | (with_reducible refine Kd.C_drewN ?_ _) | (with_reducible refine Kd.C_drew ?_))); (case side2 => exact (Kd.R_reads' HO_7.out).2.1); (case side3 => repeat (first | exact (Kd.R_reads' HO_3.out).2.2 | (with_reducible refine Kd.C_alloc ?_ _) | (with_reducible refine Kd.C_drewN ?_ _) | (with_reducible refine Kd.C_drew ?_))); (case side4 => exact (Kd.R_reads' HO_3.out).2.1); rintro e w' ⟨rfl, ⟨nd, rfl⟩⟩; refine ⟨_, rfl, ?_⟩))
 go_roundg k3
 case measure => have := HJ2.out; have := HK2.out; have := HK3.out; omega
 exact ⟨(x3_2), (wrap64 (x5_2 + 1)), (by first | rfl | (simp; done) | (simp [*]; done)), H', ⟨by have := HJ2.out; have := HK2.out; have := HK3.out; omega⟩, ⟨by (with_reducible repeat (first | apply Kd.R_alloc | apply Kd.R_drewN | apply Kd.R_drew)); exact Kd.R_mono HO_3.out (fun _ hk => trivial)⟩, ⟨by repeat (first | (with_reducible first | exact HB.out | apply below_alloc | apply pw_below_drewN | apply below_drew1) | exact HB.out)⟩⟩

end Go.Proofs.Ytngglgkemonibaa.P
