/- R22: graph.Degrees. -/
import Derived.Test.YtnmocjhpbobahaaY17
import Derived.Test.YtnmocjhpbobahaaY26
set_option linter.unusedVariables false
set_option linter.unusedSimpArgs false
set_option linter.unnecessarySimpa false
namespace Go.Proofs.Ytnmocjhpbobahaa.L
open Go Go.RowKit
set_option maxRecDepth 100000
set_option maxHeartbeats 4000000
abbrev EDeg : Env := ext env0 21 spec32
/-- One more neighbour. -/
def bump (d : List Int) (i : Nat) : List Int := d.set i (nth d i + 1)
theorem bump_len (d : List Int) (i : Nat) : (bump d i).length = d.length := by simp [bump]
def degF (n : Nat) (es : List (Int × Int)) : Nat → List Int
  | 0 => List.replicate n 0
  | i + 1 => bump (bump (degF n es i) (ent es i).1.toNat) (ent es i).2.toNat
theorem degF_len (n : Nat) (es : List (Int × Int)) (i : Nat) : (degF n es i).length = n := by
  induction i with
  | zero => simp [degF]
  | succ i ih => simp only [degF, bump_len, ih]
theorem nth_bump {d : List Int} {i : Nat} (hi : i < d.length) (j : Nat) : nth (bump d i) j = if i = j then nth d i + 1 else nth d j := by
  unfold bump nth
  simp only [List.getD_eq_getElem?_getD, List.getElem?_set]
  split
  · next h => subst h; simp [hi]
  · rfl
theorem degF_le {n : Nat} {es : List (Int × Int)} (he : ∀ i, i < es.length → 0 ≤ (ent es i).1 ∧ (ent es i).1 < n ∧ 0 ≤ (ent es i).2 ∧ (ent es i).2 < n) : ∀ i, i ≤ es.length → ∀ j, 0 ≤ nth (degF n es i) j ∧ nth (degF n es i) j ≤ 2 * i := by
  intro i
  induction i with
  | zero =>
    intro _ j
    have : nth (List.replicate n (0 : Int)) j = 0 := by
      unfold nth
      rw [List.getD_eq_getElem?_getD, List.getElem?_replicate]
      split <;> rfl
    rw [degF, this]; omega
  | succ i ih =>
    intro hi j
    have h := he i (by omega)
    have ih := ih (by omega)
    have a1 := ih j
    have a2 := ih (ent es i).1.toNat
    have a3 := ih (ent es i).2.toNat
    rw [degF, nth_bump (by rw [bump_len, degF_len]; omega), nth_bump (by rw [degF_len]; omega), nth_bump (by rw [degF_len]; omega)]
    split <;> split <;> omega
theorem right_rng {n : Nat} {es : List (Int × Int)} (h : RightG n es) (i : Nat) (hi : i < es.length) : 0 ≤ (ent es i).1 ∧ (ent es i).1 < n ∧ 0 ≤ (ent es i).2 ∧ (ent es i).2 < n ∧ (ent es i).1 < (ent es i).2 := by
  have := (h.2 i hi).1
  unfold okE at this
  unfold ent
  omega
theorem wDeg (n : Int) (es : List (Int × Int)) (hR : RightG n es) : ∃ c, Try.f22.body = some c ∧ RP (regOf Try.prog EDeg 35 u22) c (argsSt 0 [gr n es]) (endsAs Try.prog Try.f22 (ow (degF n.toNat es es.length))) := by
  refine ⟨_, rfl, ?_⟩
  generalize hQ : endsAs Try.prog Try.f22 (ow (degF n.toNat es es.length)) = Q
  simp only [argsSt]
  obtain ⟨N, rfl⟩ : ∃ N : Nat, n = (N : Int) := ⟨n.toNat, by have := hR.1; omega⟩
  rw [Int.toNat_natCast] at hQ
  have b1 : N ≤ 1000 := by have := hR.1; omega
  have b2 : es.length ≤ 4000 := hR.1.2.2
  have b3 : 0 ≤ (N : Int) ∧ (N : Int) ≤ 1000 := by omega
  refine go ?_
  apply rp_loop (fun k σ => ∃ i : Nat, i ≤ es.length ∧ k = es.length - i ∧ σ = [(3, ow (degF N es i)), (13, ⟨.one, [.c (.sl false 2 () (EL es))]⟩), (14, iv es.length), (15, iv i)]) es.length
  · exact ⟨0, by omega, by omega, rfl⟩
  rintro k σ ⟨i, hi, rfl, rfl⟩
  by_cases hil : i < es.length
  · obtain ⟨e1, e2, e3, e4, e5⟩ := right_rng hR i hil
    have l1 := degF_len N es i
    have l2 := bump_len (degF N es i) (ent es i).1.toNat
    have le := degF_le (n := N) (es := es) (fun i hi => by have h := right_rng hR i hi; exact ⟨h.1, h.2.1, h.2.2.1, h.2.2.2.1⟩) i hi
    have m1 := le (ent es i).1.toNat
    have m2 := le (ent es i).2.toNat
    have es1 : degF N es (i + 1) = bump (bump (degF N es i) (ent es i).1.toNat) (ent es i).2.toNat := rfl
    have hb : nth (bump (degF N es i) (ent es i).1.toNat) (ent es i).2.toNat = nth (degF N es i) (ent es i).2.toNat := by rw [nth_bump (by omega), if_neg (by omega)]
    refine go ?_
    rw [show (degF N es i).set (ent es i).1.toNat (nth (degF N es i) (ent es i).1.toNat + 1) = bump (degF N es i) (ent es i).1.toNat from rfl]
    refine go ?_
    rw [show (bump (degF N es i) (ent es i).1.toNat).set (ent es i).2.toNat (nth (bump (degF N es i) (ent es i).1.toNat) (ent es i).2.toNat + 1) = degF N es (i + 1) from rfl]
    exact nxt (es.length - (i + 1)) (by omega) ⟨i + 1, by omega, rfl, rfl⟩
  obtain rfl : i = es.length := by omega
  refine go ?_
  show Q .ret _; refine fin_ret hQ rfl ?_
  rfl
theorem EDeg_ok : EnvOk Try.prog EDeg := ext_ok env0_ok ok32
def specDeg : Spec := spec1 asGr fun g => when (RightG g.1 g.2) (ow (degF g.1.toNat g.2 g.2.length))
theorem okDeg : SpecOk 22 specDeg := by
  intro us r h
  obtain ⟨x, l, rfl, hl, h⟩ := spec1_eq h
  obtain ⟨h1, rfl⟩ := when_eq h
  rw [asGr_eq hl]
  exact goodBy2 EDeg_ok Try.func22 rfl (Nat.le_of_ble_eq_true rfl) (by decide) (wDeg _ _ h1)
@[simp] theorem sDeg (n : Int) (es : List (Int × Int)) (h : RightG n es) : specDeg [gr n es] = some (ow (degF n.toNat es es.length)) := by
  unfold specDeg; rw [spec1_v _ _ _ _ (asGr_gr n es)]; exact when_pos _ h
@[simp] theorem callDeg {E : Env} {σ : St Unit} {t : Nat} {l : List Operand} : effCall Try.prog E ΩU σ t 22 l = callO E 22 t (argsOf Try.prog ΩU σ [26] l) := eff_call Try.func22 Try.params22
abbrev ELow : Env := ext (ext env0 22 specDeg) 44 specMin
theorem ELow_ok : EnvOk Try.prog ELow := ext_ok (ext_ok env0_ok okDeg) okMin
end Go.Proofs.Ytnmocjhpbobahaa.L
