/- U31: carcanetref03.Degrees, carcanetref20.low of a right graph. -/
import Derived.Test.YtnmocjhpbobahaaZ41
import Derived.Test.YtnmocjhpbobahaaZ42
set_option linter.unusedVariables false
set_option linter.unusedSimpArgs false
set_option linter.unnecessarySimpa false
namespace Go.Proofs.Ytnmocjhpbobahaa.L
open Go Go.RowKit
set_option maxRecDepth 100000
set_option maxHeartbeats 4000000
theorem nb1_count (v a b : Int) (hab : a ≠ b) : ((nb1 v (a, b)).length : Int) = (if a = v then 1 else 0) + (if b = v then 1 else 0) := by
  unfold nb1
  by_cases h1 : a = v <;> by_cases h2 : b = v <;> simp [h1, h2]
theorem degF_nb {n : Nat} {es : List (Int × Int)} (h : RightG n es) (v : Nat) : ∀ i, i ≤ es.length → nth (degF n es i) v = ((nbL (es.take i) v).length : Int)
  | 0, _ => by
    show nth (List.replicate n (0 : Int)) v = _
    have : nth (List.replicate n (0 : Int)) v = 0 := by
      unfold nth
      rw [List.getD_eq_getElem?_getD, List.getElem?_replicate]
      split <;> rfl
    rw [this]; rfl
  | i + 1, hi => by
    have ih := degF_nb h v i (by omega)
    obtain ⟨e1, e2, e3, e4, e5⟩ := right_rng h i (by omega)
    have hl := degF_len n es i
    rw [nbL_take es v i (by omega), List.length_append]
    have hc := nb1_count (v : Int) (ent es i).1 (ent es i).2 (by omega)
    rw [degF, nth_bump (by rw [bump_len, hl]; omega), nth_bump (by rw [hl]; omega), nth_bump (by rw [hl]; omega)]
    generalize ent es i = e at *
    obtain ⟨a, b⟩ := e
    simp only at e1 e2 e3 e4 e5 hc ⊢
    push_cast
    rw [← ih, hc]
    have ab : ¬ a.toNat = b.toNat := by omega
    by_cases h1 : a = v
    · have h2 : ¬ b = v := by omega
      have h3 : a.toNat = v := by omega
      have h4 : ¬ b.toNat = v := by omega
      rw [if_neg h4, if_pos h3, if_pos h1, if_neg h2, h3]; omega
    · by_cases h2 : b = v
      · have h4 : b.toNat = v := by omega
        rw [if_pos h4, if_neg ab, if_neg h1, if_pos h2, h4]; omega
      · have h3 : ¬ a.toNat = v := by omega
        have h4 : ¬ b.toNat = v := by omega
        rw [if_neg h4, if_neg h3, if_neg h1, if_neg h2]; omega
theorem degF_near {n : Nat} {es : List (Int × Int)} (h : RightG n es) (v : Nat) : nth (degF n es es.length) v = ((nearR n es v).length : Int) := by
  rw [degF_nb h v es.length (Nat.le_refl _), List.take_length]
  unfold nearR
  rw [if_pos h, len_sortR]
abbrev EDegT : Env := ext (ext env0 23 spec34) 76 spec38
theorem wDegT (n : Nat) (es : List (Int × Int)) (hR : RightG n es) : ∃ c, Try.f56.body = some c ∧ RP (regOf Try.prog EDegT 24 u56) c (argsSt 0 [gr n es]) (endsAs Try.prog Try.f56 (ow (degF n es es.length))) := by
  refine ⟨_, rfl, ?_⟩
  generalize hQ : endsAs Try.prog Try.f56 (ow (degF n es es.length)) = Q
  simp only [argsSt]
  have hd := degF_near hR
  have hl := degF_len n es es.length
  have hle := degF_le (n := n) (es := es) (fun i hi => by have := right_rng hR i hi; omega) es.length (Nat.le_refl _)
  have hb : n ≤ 1000 ∧ es.length ≤ 4000 := by have := hR.1; omega
  generalize degF n es es.length = D at *
  refine go ?_
  apply rp_loop (fun k σ => ∃ i : Nat, i ≤ n ∧ k = n - i ∧ σ = [(1, gbx n es), (3, ow (D.take i)), (4, iv i)]) n
  · exact ⟨0, by omega, by omega, rfl⟩
  rintro k σ ⟨i, hi, rfl, rfl⟩
  by_cases hil : i < n
  · have ht : D.take (i + 1) = D.take i ++ [nth D i] := by rw [List.take_succ_eq_append_getElem (by omega), nth_eq (by omega)]
    have hli : (D.take i).length = i := by rw [List.length_take]; omega
    have hdi := hd i
    have hlei := hle i
    have hlen : (nearR n es i).length ≤ 8000 := by omega
    generalize D.take i = A at *
    refine go ?_
    refine nxt (n - (i + 1)) (by omega) ⟨i + 1, by omega, rfl, ?_⟩
    rw [ht, hdi]; rfl
  obtain rfl : i = n := by omega
  rw [List.take_of_length_le (by omega)]
  refine go ?_
  show Q .ret _; refine fin_ret hQ rfl ?_
  rfl
theorem EDegT_ok : EnvOk Try.prog EDegT := ext_ok (ext_ok env0_ok ok34) ok38
def specDegT : Spec := spec1 asGr fun g => when (RightG g.1 g.2) (ow (degF g.1.toNat g.2 g.2.length))
theorem okDegT : SpecOk 56 specDegT := by
  intro us r h
  obtain ⟨x, l, rfl, hl, h⟩ := spec1_eq h
  obtain ⟨h1, rfl⟩ := when_eq h
  rw [asGr_eq hl]
  have h0 : ((l.1.toNat : Nat) : Int) = l.1 := by have := h1.1; omega
  have hw := wDegT l.1.toNat l.2 (by rw [h0]; exact h1)
  rw [h0] at hw
  exact goodBy2 EDegT_ok Try.func56 rfl (Nat.le_of_ble_eq_true rfl) (by decide) hw
@[simp] theorem sDegT (n : Nat) (es : List (Int × Int)) (h : RightG n es) : specDegT [gr n es] = some (ow (degF n es es.length)) := by
  unfold specDegT; rw [spec1_v _ _ _ _ (asGr_gr (n : Int) es)]; exact when_pos _ h
@[simp] theorem callDegT {E : Env} {σ : St Unit} {t : Nat} {l : List Operand} : effCall Try.prog E ΩU σ t 56 l = callO E 56 t (argsOf Try.prog ΩU σ [26] l) := eff_call Try.func56 Try.params56
/-! ### low -/
theorem foldl_min_lt (l : List Int) (m c : Int) : l.foldl min m < c ↔ m < c ∨ ∃ x ∈ l, x < c := by
  induction l generalizing m with
  | nil => simp
  | cons y l ih =>
    rw [List.foldl_cons, ih]
    simp only [List.mem_cons, exists_eq_or_imp]
    constructor
    · rintro (h | h)
      · by_cases h' : m < c
        · exact .inl h'
        · exact .inr (.inl (by omega))
      · exact .inr (.inr h)
    · rintro (h | h | h)
      · exact .inl (by omega)
      · exact .inl (by omega)
      · exact .inr h
theorem minL_lt {l : List Int} (h : 0 < l.length) (c : Int) : minL l < c ↔ ∃ i, i < l.length ∧ nth l i < c := by
  unfold minL
  rw [foldl_min_lt]
  cases l with
  | nil => simp at h
  | cons y l =>
    rw [List.tail_cons]
    constructor
    · rintro (h | ⟨x, hx, h⟩)
      · exact ⟨0, by simp, h⟩
      · obtain ⟨i, hi, rfl⟩ := List.getElem_of_mem hx
        exact ⟨i + 1, by simpa using hi, by rw [nth_eq (by simpa using hi)]; simpa using h⟩
    · rintro ⟨i, hi, h⟩
      cases i with
      | zero => exact .inl h
      | succ i =>
        right
        rw [nth_eq hi] at h
        exact ⟨_, List.getElem_mem (by simpa using hi), by simpa using h⟩
abbrev ELowT : Env := ext env0 56 specDegT
theorem wLowT (n : Nat) (es : List (Int × Int)) (hR : RightG n es) : ∃ c, Try.f31.body = some c ∧ RP (regOf Try.prog ELowT 18 u31) c (argsSt 0 [gr n es]) (endsAs Try.prog Try.f31 (bv (decide (0 < (n : Int) ∧ minL (degF n es es.length) < 3)))) := by
  refine ⟨_, rfl, ?_⟩
  generalize hQ : endsAs Try.prog Try.f31 (bv (decide (0 < (n : Int) ∧ minL (degF n es es.length) < 3))) = Q
  simp only [argsSt]
  have hl := degF_len n es es.length
  have hb : n ≤ 1000 := by have := hR.1; omega
  have hg : ∀ h : 0 < (degF n es es.length).length, _ := fun h => minL_lt h 3
  refine go ?_
  generalize degF n es es.length = D at *
  apply rp_loop (fun k σ => ∃ i : Nat, i ≤ n ∧ k = n - i ∧ (∀ j, j < i → ¬ nth D j < 3) ∧ σ = [(3, ow D), (4, iv i)]) n
  · exact ⟨0, by omega, by omega, fun j hj => absurd hj (Nat.not_lt_zero _), rfl⟩
  rintro k σ ⟨i, hi, rfl, hno, rfl⟩
  by_cases hil : i < n
  · have i1 : i < D.length := by omega
    by_cases h3 : nth D i < 3
    · rw [show decide (0 < (n : Int) ∧ minL D < 3) = true from decide_eq_true ⟨by omega, (hg (by omega)).2 ⟨i, i1, h3⟩⟩] at hQ
      refine go ?_
      show Q .ret _; refine fin_ret hQ rfl ?_
      rfl
    · refine go ?_
      exact nxt (n - (i + 1)) (by omega) ⟨i + 1, by omega, rfl, fun j hj => by
        rcases Nat.lt_succ_iff_lt_or_eq.1 hj with h | rfl
        · exact hno j h
        · exact h3, rfl⟩
  obtain rfl : i = n := by omega
  rw [show decide (0 < (i : Int) ∧ minL D < 3) = false from decide_eq_false (fun q => by
    obtain ⟨j, hj, h⟩ := (hg (by omega)).1 q.2
    exact hno j (by omega) h)] at hQ
  refine go ?_
  show Q .ret _; refine fin_ret hQ rfl ?_
  rfl
def specLowT : Spec := spec1 asGr fun g => when (RightG g.1 g.2) (bv (decide (0 < g.1 ∧ minL (degF g.1.toNat g.2 g.2.length) < 3)))
theorem okLowT : SpecOk 31 specLowT := by
  intro us r h
  obtain ⟨x, l, rfl, hl, h⟩ := spec1_eq h
  obtain ⟨h1, rfl⟩ := when_eq h
  rw [asGr_eq hl]
  have h0 : ((l.1.toNat : Nat) : Int) = l.1 := by have := h1.1; omega
  have hw := wLowT l.1.toNat l.2 (by rw [h0]; exact h1)
  rw [h0] at hw
  exact goodBy2 (ext_ok env0_ok okDegT) Try.func31 rfl (Nat.le_of_ble_eq_true rfl) (by decide) hw
@[simp] theorem sLowT (n : Nat) (es : List (Int × Int)) (h : RightG n es) : specLowT [gr n es] = some (bv (decide (0 < (n : Int) ∧ minL (degF n es es.length) < 3))) := by
  unfold specLowT; rw [spec1_v _ _ _ _ (asGr_gr (n : Int) es)]; exact when_pos _ h
@[simp] theorem callLowT {E : Env} {σ : St Unit} {t : Nat} {l : List Operand} : effCall Try.prog E ΩU σ t 31 l = callO E 31 t (argsOf Try.prog ΩU σ [26] l) := eff_call Try.func31 Try.params31
end Go.Proofs.Ytnmocjhpbobahaa.L
