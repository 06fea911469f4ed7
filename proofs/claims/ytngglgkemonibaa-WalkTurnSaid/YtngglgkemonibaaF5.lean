-- made by wip/fork.py (a program of this session) out of the translation; Lean checks it
import Derived.Test.YtngglgkemonibaaK0
import Derived.Test.YtngglgkemonibaaF19
import Derived.Test.YtngglgkemonibaaF23
import Derived.Test.YtngglgkemonibaaShown05
import Derived.Test.YtngglgkemonibaaTurn
/- flat -/
namespace Go.Proofs.Ytngglgkemonibaa.P
open Go.RowKit Go.Proofs.YtngglgkemonibaaW.PrintWords Go.Proofs.YtngglgkemonibaaW.PrintLast Go.Proofs.YtngglgkemonibaaW.PrintMore
attribute [local go_sem] max2_int min2_int max_two min_two max_three min_three max_four min_four   -- for this text's walks alone
set_option linter.unusedVariables false
set_option linter.unusedSimpArgs false

/-! ### carcanetlaw05_WalkTurn: function 5 -/
def carcanetlaw05_WalkTurn.f (k : Nat) (l0 : List Int) : Option (Bool) := (carcanetlaw05_shown.f).bind fun t399 => (if 0 ≤ (mn (l0.length : Int) 200) then (if (mn (l0.length : Int) 200) ≤ (l0.length : Int) then (if t399 = true then ((walk_Turn.f (l0.take ((mn (l0.length : Int) 200) : Int).toNat)).bind fun t401 => ((carcanetref05_Turn.f k (l0.take ((mn (l0.length : Int) 200) : Int).toNat)).bind fun t404 => ((carcanetref03_Same.f k t401 t404).bind fun t407 => (some t407)))) else (some false)) else (none)) else (none))
set_option maxHeartbeats 8000000 in
set_option maxRecDepth 100000 in
theorem carcanetlaw05_WalkTurn.calls (k : Nat) (A0 : Option Addr) (c0 : Nat) (l0 : List Int) (r : Bool) (w : World) (hr0 : Kd.C (Kd.int .i64) w A0 l0.length l0) (hc0 : l0.length ≤ c0) (h : carcanetlaw05_WalkTurn.f k l0 = some r) :
    Calls Try.prog 5 #[.slice A0 l0.length c0] w fun e w' => e = .returned (.bool r) ∧ Below w.heap.size w w' := by
 have HR0 := Aside0.mk hr0
 have HC0 := Aside0.mk hc0
 clear hr0 hc0
 have HB := Aside0.mk (Below.refl w.heap.size w)
 have H : ((carcanetlaw05_shown.f).bind fun t399 => (if 0 ≤ (mn (l0.length : Int) 200) then (if (mn (l0.length : Int) 200) ≤ (l0.length : Int) then (if t399 = true then ((walk_Turn.f (l0.take ((mn (l0.length : Int) 200) : Int).toNat)).bind fun t401 => ((carcanetref05_Turn.f k (l0.take ((mn (l0.length : Int) 200) : Int).toNat)).bind fun t404 => ((carcanetref03_Same.f k t401 t404).bind fun t407 => (some t407)))) else (some false)) else (none)) else (none))) = some r := h
 clear h
 replace H := Option.bind_eq_some_iff.mp H
 obtain ⟨t399, A20, H⟩ := H
 replace H : (if 0 ≤ (mn (l0.length : Int) 200) then (if (mn (l0.length : Int) 200) ≤ (l0.length : Int) then (if t399 = true then ((walk_Turn.f (l0.take ((mn (l0.length : Int) 200) : Int).toNat)).bind fun t401 => ((carcanetref05_Turn.f k (l0.take ((mn (l0.length : Int) 200) : Int).toNat)).bind fun t404 => ((carcanetref03_Same.f k t401 t404).bind fun t407 => (some t407)))) else (some false)) else (none)) else (none)) = some r := H
 have A2 := Aside0.mk A20
 clear A20
 obtain ⟨ji3, hji3⟩ : ∃ j_ : Int, (mn (l0.length : Int) 200) = j_ := ⟨_, rfl⟩
 replace H : (if 0 ≤ (ji3) then (if (ji3) ≤ (l0.length : Int) then (if t399 = true then ((walk_Turn.f (l0.take ((ji3) : Int).toNat)).bind fun t401 => ((carcanetref05_Turn.f k (l0.take ((ji3) : Int).toNat)).bind fun t404 => ((carcanetref03_Same.f k t401 t404).bind fun t407 => (some t407)))) else (some false)) else (none)) else (none)) = some r := by first | (rw [hji3] at H; exact H) | (simp only [hji3] at H ⊢; exact H)
 (try rw [hji3] at A2)
 (try (have hji3h : ji3 ≤ 200 := by (rw [← hji3]; unfold mn; (repeat' split) <;> omega)))
 (try (have hji3g : ji3 ≤ 64 := by omega))
 (try (have hji3l : 0 ≤ ji3 := by (rw [← hji3]; unfold mn; (repeat' split) <;> omega)))
 (try (have hji3m : 0 ≤ ji3 := by omega))
 have hji3_ : (if 200 < (l0.length : Int) then 200 else (l0.length : Int)) = ji3 := hji3
 by_cases c4 : 0 ≤ (ji3)
 rotate_left
 · rw [if_neg c4] at H
   exact absurd H (by simp)
 rw [if_pos c4] at H
 have c4b0 := eq_true c4
 have c4b1 : decide (0 ≤ (ji3)) = true := decide_eq_true c4
 clear c4
 by_cases c5 : (ji3) ≤ (l0.length : Int)
 rotate_left
 · rw [if_neg c5] at H
   exact absurd H (by simp)
 rw [if_pos c5] at H
 have c5b0 := eq_true c5
 have c5b1 : decide ((ji3) ≤ (l0.length : Int)) = true := decide_eq_true c5
 clear c5
 by_cases c6 : t399 = true
 rotate_left
 · replace c6 := Bool.eq_false_iff.mpr c6
   subst c6
   have H1 : (some false) = some r := by rw [if_neg (show ¬ (false = true) by decide)] at H; exact H
   clear H
   have H := H1
   clear H1
   obtain rfl := Option.some.inj H
   go_enter Try.func5, Try.ntmps5
   go_wp2_with (first|((with_reducible refine gate_callee (f := 11) rfl ?_);refine goesL_ (some 4) rfl rfl Try.func11 (by kernel_rfl) rfl #[] rfl (by (try simp only [List.map_toArray, List.map_cons, List.map_nil]);first|done|rfl|(simp only [List.length_drop, List.length_take];rfl)) ?_;(with_reducible refine (carcanetlaw05_shown.calls  false _ A2.out).mono ?_);rintro e w16 ⟨rfl, hb⟩;refine ⟨_, rfl, ?_⟩;have n0_ := Aside0.mk (below_step (by repeat (first|(with_reducible first|exact HB.out|apply below_alloc|apply pw_below_drewN|apply below_drew1)|exact HB.out)) hb);clear HB;have HB := n0_;clear n0_;(try clear hb);(try clear hb2);(try clear hk);(try clear hi);obtain ⟨i017, hi017, _, hsz17, _⟩ := info_parts info3;obtain ⟨hcut17, hA17, hC17⟩ := print_take_of (P := Try.prog) (Value.int .i64) 0 25 3 .i64 Try.underlying25 hi017 hsz17 A0 c0 l0 (ji3) (of_decide_eq_true (by first|(with_reducible assumption)|assumption)) (of_decide_eq_true (by first|(with_reducible assumption)|assumption)) HC0.out;have HR400 := Aside0.mk (Kd.C_of_reads (h1 := fun _ => rfl) (hA17 _ (Kd.reads_of_C HR0.out)));have HC400 := Aside0.mk hC17;clear hA17 hC17 hi017 hsz17))
   go_ret
   exact ⟨by first|rfl|(simp [errW_none, errW_some] <;> rfl)|(simp only [← hji3];first|rfl|(simp [errW_none, errW_some] <;> rfl))|(simp [*, errW_none, errW_some] <;> rfl), by repeat (first|(with_reducible first|exact HB.out|apply below_alloc|apply pw_below_drewN|apply below_drew1)|exact HB.out)⟩
 subst c6
 have H1 : ((walk_Turn.f (l0.take ((ji3) : Int).toNat)).bind fun t401 => ((carcanetref05_Turn.f k (l0.take ((ji3) : Int).toNat)).bind fun t404 => ((carcanetref03_Same.f k t401 t404).bind fun t407 => (some t407)))) = some r := by rw [if_pos rfl] at H; exact H
 clear H
 have H := H1
 clear H1
 replace H := Option.bind_eq_some_iff.mp H
 obtain ⟨t401, A70, H⟩ := H
 replace H : ((carcanetref05_Turn.f k (l0.take ((ji3) : Int).toNat)).bind fun t404 => ((carcanetref03_Same.f k t401 t404).bind fun t407 => (some t407))) = some r := H
 have A7 := Aside0.mk A70
 clear A70
 replace H := Option.bind_eq_some_iff.mp H
 obtain ⟨t404, A80, H⟩ := H
 replace H : ((carcanetref03_Same.f k t401 t404).bind fun t407 => (some t407)) = some r := H
 have A8 := Aside0.mk A80
 clear A80
 replace H := Option.bind_eq_some_iff.mp H
 obtain ⟨t407, A90, H⟩ := H
 replace H : (some t407) = some r := H
 have A9 := Aside0.mk A90
 clear A90
 obtain rfl := Option.some.inj H
 obtain ⟨X3, hX3⟩ : ∃ X_ : List Int, l0.take ((ji3) : Int).toNat = X_ := ⟨_, rfl⟩
 rw [hX3] at A7 A8
 have HX3 := Aside0.mk hX3
 clear hX3
 go_enter Try.func5, Try.ntmps5
 go_wp2_with (first|((with_reducible refine gate_callee (f := 11) rfl ?_);refine goesL_ (some 4) rfl rfl Try.func11 (by kernel_rfl) rfl #[] rfl (by (try simp only [List.map_toArray, List.map_cons, List.map_nil]);first|done|rfl|(simp only [List.length_drop, List.length_take];rfl)) ?_;(with_reducible refine (carcanetlaw05_shown.calls  true _ A2.out).mono ?_);rintro e w10 ⟨rfl, hb⟩;refine ⟨_, rfl, ?_⟩;have n0_ := Aside0.mk (below_step (by repeat (first|(with_reducible first|exact HB.out|apply below_alloc|apply pw_below_drewN|apply below_drew1)|exact HB.out)) hb);clear HB;have HB := n0_;clear n0_;(try clear hb);(try clear hb2);(try clear hk);(try clear hi);obtain ⟨i011, hi011, _, hsz11, _⟩ := info_parts info3;obtain ⟨hcut11, hA11, hC11⟩ := print_take_of (P := Try.prog) (Value.int .i64) 0 25 3 .i64 Try.underlying25 hi011 hsz11 A0 c0 l0 (ji3) (of_decide_eq_true (by first|(with_reducible assumption)|assumption)) (of_decide_eq_true (by first|(with_reducible assumption)|assumption)) HC0.out;rw [HX3.out] at hcut11 hA11 hC11;have HR400 := Aside0.mk (Kd.C_of_reads (h1 := fun _ => rfl) (hA11 _ (Kd.reads_of_C HR0.out)));have HC400 := Aside0.mk hC11;clear hA11 hC11 hi011 hsz11)|(go_at_call 22;(with_reducible refine (walk_Turn.calls _ _ X3 t401 _ ?side1 ?side2 A7.out).mono ?_);(case side1 => repeat (first|exact (Kd.C_below HR400.out HB.out)|(with_reducible refine Kd.C_alloc ?_ _)|(with_reducible refine Kd.C_drewN ?_ _)|(with_reducible refine Kd.C_drew ?_)));(case side2 => exact HC400.out);rintro e w12 ⟨v402, rfl, ho0, hb⟩;have n0_ := Aside0.mk (Kd.R_lower ho0 (below_size (by repeat (first|(with_reducible first|exact HB.out|apply below_alloc|apply pw_below_drewN|apply below_drew1)|exact HB.out))));have n1_ := Aside0.mk (below_step (by repeat (first|(with_reducible first|exact HB.out|apply below_alloc|apply pw_below_drewN|apply below_drew1)|exact HB.out)) hb);clear HB;have HO403 := n0_;have HB := n1_;clear n0_ n1_;(try clear hb);(try clear hb2);(try clear hk);(try clear hi);(try clear ho0))|(go_at_call 23;(with_reducible refine (carcanetref05_Turn.calls k _ _ X3 t404 _ ?side1 ?side2 A8.out).mono ?_);(case side1 => repeat (first|exact (Kd.C_below HR400.out HB.out)|(with_reducible refine Kd.C_alloc ?_ _)|(with_reducible refine Kd.C_drewN ?_ _)|(with_reducible refine Kd.C_drew ?_)));(case side2 => exact HC400.out);rintro e w13 ⟨v405, rfl, ho0, hb⟩;have n0_ := Aside0.mk (Kd.R_elder' (by (with_reducible repeat (first|apply Kd.R_alloc|apply Kd.R_drewN|apply Kd.R_drew));exact HO403.out) (Kd.R_base ho0) hb);have n1_ := Aside0.mk (Kd.R_lower (Kd.R_new' ho0 (Kd.R_lt (by (with_reducible repeat (first|apply Kd.R_alloc|apply Kd.R_drewN|apply Kd.R_drew));exact HO403.out))) (below_size (by repeat (first|(with_reducible first|exact HB.out|apply below_alloc|apply pw_below_drewN|apply below_drew1)|exact HB.out))));have n2_ := Aside0.mk (below_step (by repeat (first|(with_reducible first|exact HB.out|apply below_alloc|apply pw_below_drewN|apply below_drew1)|exact HB.out)) hb);clear HO403;clear HB;have HO403 := n0_;have HO406 := n1_;have HB := n2_;clear n0_ n1_ n2_;(try clear hb);(try clear hb2);(try clear hk);(try clear hi);(try clear ho0);obtain ⟨Ao14, co14, eo14⟩ := Kd.R_slice HO403.out;subst eo14;obtain ⟨Ao15, co15, eo15⟩ := Kd.R_slice HO406.out;subst eo15)|(go_at_call 19;(with_reducible refine (carcanetref03_Same.calls k _ _ t401 _ _ t404 t407 _ ?side1 ?side2 ?side3 ?side4 A9.out).mono ?_);(case side1 => repeat (first|exact (Kd.R_reads' HO403.out).2.2|(with_reducible refine Kd.C_alloc ?_ _)|(with_reducible refine Kd.C_drewN ?_ _)|(with_reducible refine Kd.C_drew ?_)));(case side2 => exact (Kd.R_reads' HO403.out).2.1);(case side3 => repeat (first|exact (Kd.R_reads' HO406.out).2.2|(with_reducible refine Kd.C_alloc ?_ _)|(with_reducible refine Kd.C_drewN ?_ _)|(with_reducible refine Kd.C_drew ?_)));(case side4 => exact (Kd.R_reads' HO406.out).2.1);rintro e w' ⟨rfl, ⟨nd, rfl⟩⟩))
 go_ret
 exact ⟨by first|rfl|(simp [errW_none, errW_some] <;> rfl)|(simp only [← hji3];first|rfl|(simp [errW_none, errW_some] <;> rfl))|(simp [*, errW_none, errW_some] <;> rfl), by repeat (first|(with_reducible first|exact HB.out|apply below_alloc|apply pw_below_drewN|apply below_drew1)|exact HB.out)⟩

/-- THE ONE PURE STATEMENT of carcanetlaw05_WalkTurn: yours. -/
def carcanetlaw05_WalkTurn.Pure : Prop := ∀ (l0 : List Int), l0.length ≤ maxLen → l0.length * 8 ≤ 140737488351232 → (∀ x ∈ l0, (Lit.int .i64 x).wf = true) → ∃ k, carcanetlaw05_WalkTurn.f k l0 = some true
theorem carcanetlaw05_WalkTurn.walk (P : carcanetlaw05_WalkTurn.Pure) (a0 : Option Addr) (len0 cap0 : Nat) (z0 : List Int) (w : World) (w0 : (a0 = none ∧ len0 = 0 ∧ cap0 = 0 ∧ z0 = []) ∨ ∃ x, a0 = some x ∧ len0 ≤ cap0 ∧ cap0 ≤ maxLen ∧ z0.length = cap0 ∧ (∀ i, i < z0.length → w.cell? (x.add i) = some (.int .i64 (z0.getD i 0))) ∧ ∀ n ∈ z0, (Lit.int .i64 n).wf = true) (y0 : len0 * 8 ≤ 140737488351232) :
    Calls Try.prog 5 #[.slice a0 len0 cap0] w fun e w' => e = .returned (.bool true) ∧ Below w.heap.size w w' := by
  obtain ⟨l0, rfl, hr0, hm0, hw0, hc0⟩ := ReadsInt.ofRowC w0
  obtain ⟨k, h⟩ := P l0 hm0 y0 hw0
  refine (carcanetlaw05_WalkTurn.calls k _ _ l0 true w (Kd.C_of_reads (d := (0 : Int)) (h1 := fun _ => rfl) hr0) hc0 h).mono ?_
  rintro e w' ⟨rfl, hd⟩
  exact ⟨rfl, hd⟩

end Go.Proofs.Ytngglgkemonibaa.P
