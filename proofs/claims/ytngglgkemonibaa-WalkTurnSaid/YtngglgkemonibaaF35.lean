-- made by wip/fork.py (a program of this session) out of the translation; Lean checks it
import Derived.Test.YtngglgkemonibaaK0
/- flat -/
namespace Go.Proofs.Ytngglgkemonibaa.P
open Go.RowKit Go.Proofs.YtngglgkemonibaaW.PrintWords Go.Proofs.YtngglgkemonibaaW.PrintLast Go.Proofs.YtngglgkemonibaaW.PrintMore
attribute [local go_sem] max2_int min2_int max_two min_two max_three min_three max_four min_four   -- for this text's walks alone
set_option linter.unusedVariables false
set_option linter.unusedSimpArgs false

/-! ### carcanetref05_Unlike: function 35 -/
mutual
def carcanetref05_Unlike.l0 : Nat → List Int → Int → Option (Bool)
  | 0, _, _ => none
  | k + 1, x0, x3 => if x3 < (x0.length : Int) then (carcanetref05_Unlike.l1 k x0 x3 0) else (some true)
def carcanetref05_Unlike.l1 : Nat → List Int → Int → Int → Option (Bool)
  | 0, _, _, _ => none
  | k + 1, x0, x3, x4 => if x4 < x3 then (if 0 ≤ x3 then (if x3 < (x0.length : Int) then (if 0 ≤ x4 then (if x4 < (x0.length : Int) then (if (rd x0 x3) = (rd x0 x4) then (some false) else (carcanetref05_Unlike.l1 k x0 x3 (wrap64 (x4 + 1)))) else (none)) else (none)) else (none)) else (none)) else (carcanetref05_Unlike.l0 k x0 (wrap64 (x3 + 1)))
end
def carcanetref05_Unlike.f (k : Nat) (l0 : List Int) : Option (Bool) := carcanetref05_Unlike.l0 k l0 0
set_option maxHeartbeats 8000000 in
set_option maxRecDepth 100000 in
theorem carcanetref05_Unlike.calls (k : Nat) (A0 : Option Addr) (c0 : Nat) (l0 : List Int) (r : Bool) (w : World) (hr0 : Kd.C (Kd.int .i64) w A0 l0.length l0) (hc0 : l0.length ≤ c0) (h : carcanetref05_Unlike.f k l0 = some r) :
    Calls Try.prog 35 #[.slice A0 l0.length c0] w fun e w' => e = .returned (.bool r) ∧ Drawn0 w w' := by
 have HR0 := Aside0.mk hr0
 have HC0 := Aside0.mk hc0
 clear hr0 hc0
 have H : (carcanetref05_Unlike.l0 k l0 0) = some r := h
 clear h
 have H' := Aside0.mk H
 clear H
 go_enter Try.func35, Try.ntmps35
 go_wp2
 repeat (go_quiet (fail); try go_wp2)
 go_loopg [3] k (fun kq v3 w' => ∃ (x3_1 : Int), v3 = .int .i64 x3_1 ∧ Aside0 (carcanetref05_Unlike.l0 kq l0 x3_1 = some r) ∧ Aside0 (kq ≤ k) ∧ Drawn0 w w')
 case atStart => exact ⟨(0), (by first | rfl | (simp; done) | (simp [*]; done)), H', ⟨Nat.le_refl _⟩, by repeat (first | exact Drawn0.refl _ | apply Drawn0.step)⟩
 clear H'
 obtain ⟨x3_1, rfl, HA, HK1, ⟨m1, rfl⟩⟩ := hrel
 rcases gk with _ | k1
 · exact absurd HA.out (by simp [carcanetref05_Unlike.l0])
 have H := HA.out
 clear HA
 simp only [carcanetref05_Unlike.l0] at H
 by_cases c2 : x3_1 < (l0.length : Int)
 rotate_left
 · rw [if_neg c2] at H
   have c2b0 : decide (x3_1 < (l0.length : Int)) = false := decide_eq_false c2
   clear c2
   obtain rfl := Option.some.inj H
   go_wp2
   repeat (go_quiet (fail); try go_wp2)
   go_ret
   exact ⟨by first | rfl | (simp; done) | (simp [*]; done), by repeat (first | exact Drawn0.refl _ | apply Drawn0.step)⟩
 rw [if_pos c2] at H
 have c2b0 : decide (x3_1 < (l0.length : Int)) = true := decide_eq_true c2
 clear c2
 have H' := Aside0.mk H
 clear H
 go_wp2
 repeat (go_quiet (fail); try go_wp2)
 go_loopg [4] k1 (fun kq v4 w' => ∃ (x4_2 : Int), v4 = .int .i64 x4_2 ∧ Aside0 (carcanetref05_Unlike.l1 kq l0 x3_1 x4_2 = some r) ∧ Aside0 (kq ≤ k1) ∧ Drawn0 w w')
 case atStart => exact ⟨(0), (by first | rfl | (simp; done) | (simp [*]; done)), H', ⟨Nat.le_refl _⟩, by repeat (first | exact Drawn0.refl _ | apply Drawn0.step)⟩
 clear H'
 try clear c2
 try clear c2b0
 try clear p2
 obtain ⟨x4_2, rfl, HA, HK2, ⟨m2, rfl⟩⟩ := hrel
 rcases gk with _ | k2
 · exact absurd HA.out (by simp [carcanetref05_Unlike.l1])
 have H := HA.out
 clear HA
 simp only [carcanetref05_Unlike.l1] at H
 by_cases c3 : x4_2 < x3_1
 rotate_left
 · rw [if_neg c3] at H
   have c3b0 : decide (x4_2 < x3_1) = false := decide_eq_false c3
   clear c3
   have H' := Aside0.mk H
   clear H
   go_wp2
   repeat (go_quiet (fail); try go_wp2)
   go_roundg k2
   case measure => have := HK1.out; have := HK2.out; omega
   case rel => exact ⟨(wrap64 (x3_1 + 1)), (by first | rfl | (simp; done) | (simp [*]; done)), H', ⟨by have := HK1.out; have := HK2.out; omega⟩, by repeat (first | exact Drawn0.refl _ | apply Drawn0.step)⟩
 rw [if_pos c3] at H
 have c3b0 : decide (x4_2 < x3_1) = true := decide_eq_true c3
 clear c3
 by_cases c4 : 0 ≤ x3_1
 rotate_left
 · rw [if_neg c4] at H
   exact absurd H (by simp)
 rw [if_pos c4] at H
 have c4b0 : decide (0 ≤ x3_1) = true := decide_eq_true c4
 clear c4
 by_cases c5 : x3_1 < (l0.length : Int)
 rotate_left
 · rw [if_neg c5] at H
   exact absurd H (by simp)
 rw [if_pos c5] at H
 have c5b0 : decide (x3_1 < (l0.length : Int)) = true := decide_eq_true c5
 clear c5
 by_cases c6 : 0 ≤ x4_2
 rotate_left
 · rw [if_neg c6] at H
   exact absurd H (by simp)
 rw [if_pos c6] at H
 have c6b0 : decide (0 ≤ x4_2) = true := decide_eq_true c6
 clear c6
 by_cases c7 : x4_2 < (l0.length : Int)
 rotate_left
 · rw [if_neg c7] at H
   exact absurd H (by simp)
 rw [if_pos c7] at H
 have c7b0 : decide (x4_2 < (l0.length : Int)) = true := decide_eq_true c7
 clear c7
 by_cases c8 : (rd l0 x3_1) = (rd l0 x4_2)
 · rw [if_pos c8] at H
   have c8b0 : ((rd l0 x3_1) == (rd l0 x4_2)) = true := beq_iff_eq.mpr c8
   have c8b1 : ((rd l0 x3_1) != (rd l0 x4_2)) = false := bne_eq_false_iff_eq.mpr c8
   clear c8
   obtain rfl := Option.some.inj H
   have p139 : 0 ≤ (x3_1 : Int) := of_decide_eq_true (by first | (with_reducible assumption) | assumption)
   have q139 : x3_1 < (l0.length : Int) := of_decide_eq_true (by first | (with_reducible assumption) | assumption)
   obtain ⟨ad139, e139, hx139_0⟩ := Kd.at_int HR0.out x3_1 p139 q139
   cases e139
   replace p139 := eq_true p139
   replace q139 := eq_true q139
   have p140 : 0 ≤ (x4_2 : Int) := of_decide_eq_true (by first | (with_reducible assumption) | assumption)
   have q140 : x4_2 < (l0.length : Int) := of_decide_eq_true (by first | (with_reducible assumption) | assumption)
   obtain ⟨ad140, e140, hx140_0⟩ := Kd.at_int HR0.out x4_2 p140 q140
   obtain rfl : ad139 = ad140 := (by injection e140)
   replace p140 := eq_true p140
   replace q140 := eq_true q140
   go_wp2
   repeat (go_quiet (fail); try go_wp2)
   go_ret
   exact ⟨by first | rfl | (simp; done) | (simp [*]; done), by repeat (first | exact Drawn0.refl _ | apply Drawn0.step)⟩
 rw [if_neg c8] at H
 have c8b0 : ((rd l0 x3_1) == (rd l0 x4_2)) = false := beq_eq_false_iff_ne.mpr c8
 have c8b1 : ((rd l0 x3_1) != (rd l0 x4_2)) = true := bne_iff_ne.mpr c8
 have H' := Aside0.mk H
 clear H
 have p139 : 0 ≤ (x3_1 : Int) := of_decide_eq_true (by first | (with_reducible assumption) | assumption)
 have q139 : x3_1 < (l0.length : Int) := of_decide_eq_true (by first | (with_reducible assumption) | assumption)
 obtain ⟨ad139, e139, hx139_0⟩ := Kd.at_int HR0.out x3_1 p139 q139
 cases e139
 replace p139 := eq_true p139
 replace q139 := eq_true q139
 have p140 : 0 ≤ (x4_2 : Int) := of_decide_eq_true (by first | (with_reducible assumption) | assumption)
 have q140 : x4_2 < (l0.length : Int) := of_decide_eq_true (by first | (with_reducible assumption) | assumption)
 obtain ⟨ad140, e140, hx140_0⟩ := Kd.at_int HR0.out x4_2 p140 q140
 obtain rfl : ad139 = ad140 := (by injection e140)
 replace p140 := eq_true p140
 replace q140 := eq_true q140
 go_wp2
 repeat (go_quiet (fail); try go_wp2)
 go_roundg k2
 case measure => have := HK1.out; have := HK2.out; omega
 case rel => exact ⟨(wrap64 (x4_2 + 1)), (by first | rfl | (simp; done) | (simp [*]; done)), H', ⟨by have := HK1.out; have := HK2.out; omega⟩, by repeat (first | exact Drawn0.refl _ | apply Drawn0.step)⟩

end Go.Proofs.Ytngglgkemonibaa.P
