/- T36: slices.Min and slices.Max at int. -/
import Derived.Test.YtngglgkemonibaaQ11
set_option linter.unusedVariables false
set_option linter.unusedSimpArgs false
set_option linter.unnecessarySimpa false
namespace Go.Proofs.Ytngglgkemonibaa.L
open Go Go.RowKit
set_option maxRecDepth 100000
set_option maxHeartbeats 4000000
def minL (l : List Int) : Int := l.foldl min (nth l 0)
theorem w36 (l : List Int) (h0 : 0 < l.length) (hl : l.length ≤ 17592186043904) : ∃ c, Try.f36.body = some c ∧ RP (regOf Try.prog env0 25 u36) c (argsSt 0 [ints l]) (endsAs Try.prog Try.f36 (iv (minL l))) := by
  refine ⟨_, rfl, ?_⟩
  generalize hQ : endsAs Try.prog Try.f36 (iv (minL l)) = Q
  simp only [argsSt]
  refine go ?_
  apply rp_loop (fun k σ => ∃ (i : Nat) (m : Int), 1 ≤ i ∧ i ≤ l.length ∧ k = l.length - i ∧ m = (l.take i).foldl min (nth l 0) ∧ σ = [(0, ints l), (3, iv m), (4, iv i)]) (l.length - 1)
  · refine ⟨1, nth l 0, by omega, by omega, by omega, ?_, rfl⟩
    rw [show l.take 1 = [nth l 0] by rw [nth_take h0]; simp]
    simp
  rintro k σ ⟨i, m, h1, hi, rfl, hm, rfl⟩
  by_cases hil : i < l.length
  case neg =>
    have e : m = minL l := by rw [hm, List.take_of_length_le (by omega)]; rfl
    rw [← e] at hQ
    refine go ?_
    show Q .ret _; refine fin_ret hQ rfl ?_
    rfl
  refine go ?_
  exact nxt (l.length - (i + 1)) (by omega) ⟨i + 1, min m (nth l i), by omega, by omega, by omega, by rw [nth_take hil, List.foldl_append, ← hm]; rfl, rfl⟩
def spec36 : Spec := spec1 asInts fun l => when (0 < l.length ∧ l.length ≤ 17592186043904) (iv (minL l))
theorem ok36 : SpecOk 36 spec36 := by
  intro us r h
  obtain ⟨x, l, rfl, hl, h⟩ := spec1_eq h
  obtain ⟨hlen, rfl⟩ := when_eq h
  rw [asInts_eq hl]
  exact goodBy2 env0_ok Try.func36 rfl (Nat.le_of_ble_eq_true rfl) (by decide) (w36 l hlen.1 hlen.2)
@[simp] theorem s36 (l : List Int) (h0 : 0 < l.length) (h : l.length ≤ 17592186043904) : spec36 [ints l] = some (iv (minL l)) := by
  unfold spec36; rw [spec1_v _ _ _ _ (asInts_ints l)]; exact when_pos _ ⟨h0, h⟩
@[simp] theorem call36 {E : Env} {σ : St Unit} {t : Nat} {l : List Operand} : effCall Try.prog E ΩU σ t 36 l = callO E 36 t (argsOf Try.prog ΩU σ [25] l) := eff_call Try.func36 Try.params36
def maxL (l : List Int) : Int := l.foldl max (nth l 0)
theorem w37 (l : List Int) (h0 : 0 < l.length) (hl : l.length ≤ 17592186043904) : ∃ c, Try.f37.body = some c ∧ RP (regOf Try.prog env0 25 u37) c (argsSt 0 [ints l]) (endsAs Try.prog Try.f37 (iv (maxL l))) := by
  refine ⟨_, rfl, ?_⟩
  generalize hQ : endsAs Try.prog Try.f37 (iv (maxL l)) = Q
  simp only [argsSt]
  refine go ?_
  apply rp_loop (fun k σ => ∃ (i : Nat) (m : Int), 1 ≤ i ∧ i ≤ l.length ∧ k = l.length - i ∧ m = (l.take i).foldl max (nth l 0) ∧ σ = [(0, ints l), (3, iv m), (4, iv i)]) (l.length - 1)
  · refine ⟨1, nth l 0, by omega, by omega, by omega, ?_, rfl⟩
    rw [show l.take 1 = [nth l 0] by rw [nth_take h0]; simp]
    simp
  rintro k σ ⟨i, m, h1, hi, rfl, hm, rfl⟩
  by_cases hil : i < l.length
  case neg =>
    have e : m = maxL l := by rw [hm, List.take_of_length_le (by omega)]; rfl
    rw [← e] at hQ
    refine go ?_
    show Q .ret _; refine fin_ret hQ rfl ?_
    rfl
  refine go ?_
  exact nxt (l.length - (i + 1)) (by omega) ⟨i + 1, max m (nth l i), by omega, by omega, by omega, by rw [nth_take hil, List.foldl_append, ← hm]; rfl, rfl⟩
def spec37 : Spec := spec1 asInts fun l => when (0 < l.length ∧ l.length ≤ 17592186043904) (iv (maxL l))
theorem ok37 : SpecOk 37 spec37 := by
  intro us r h
  obtain ⟨x, l, rfl, hl, h⟩ := spec1_eq h
  obtain ⟨hlen, rfl⟩ := when_eq h
  rw [asInts_eq hl]
  exact goodBy2 env0_ok Try.func37 rfl (Nat.le_of_ble_eq_true rfl) (by decide) (w37 l hlen.1 hlen.2)
@[simp] theorem s37 (l : List Int) (h0 : 0 < l.length) (h : l.length ≤ 17592186043904) : spec37 [ints l] = some (iv (maxL l)) := by
  unfold spec37; rw [spec1_v _ _ _ _ (asInts_ints l)]; exact when_pos _ ⟨h0, h⟩
@[simp] theorem call37 {E : Env} {σ : St Unit} {t : Nat} {l : List Operand} : effCall Try.prog E ΩU σ t 37 l = callO E 37 t (argsOf Try.prog ΩU σ [25] l) := eff_call Try.func37 Try.params37
theorem fold_min (l : List Int) : ∀ (a : Int) (b : Int), b ≤ l.foldl min a ↔ b ≤ a ∧ ∀ x ∈ l, b ≤ x := by
  induction l with
  | nil => simp
  | cons y l ih => intro a b; rw [List.foldl_cons, ih]; simp only [List.mem_cons, forall_eq_or_imp]; constructor <;> (intro h; refine ⟨?_, ?_⟩) <;> first | omega | exact ⟨by omega, h.2⟩ | exact h.2.2
theorem fold_max (l : List Int) : ∀ (a : Int) (b : Int), l.foldl max a ≤ b ↔ a ≤ b ∧ ∀ x ∈ l, x ≤ b := by
  induction l with
  | nil => simp
  | cons y l ih => intro a b; rw [List.foldl_cons, ih]; simp only [List.mem_cons, forall_eq_or_imp]; constructor <;> (intro h; refine ⟨?_, ?_⟩) <;> first | omega | exact ⟨by omega, h.2⟩ | exact h.2.2
theorem le_minL {l : List Int} (h0 : 0 < l.length) (b : Int) : b ≤ minL l ↔ ∀ x ∈ l, b ≤ x := by
  unfold minL; rw [fold_min]; exact ⟨fun h => h.2, fun h => ⟨h _ (by rw [nth_eq h0]; exact List.getElem_mem h0), h⟩⟩
theorem maxL_le {l : List Int} (h0 : 0 < l.length) (b : Int) : maxL l ≤ b ↔ ∀ x ∈ l, x ≤ b := by
  unfold maxL; rw [fold_max]; exact ⟨fun h => h.2, fun h => ⟨h _ (by rw [nth_eq h0]; exact List.getElem_mem h0), h⟩⟩
end Go.Proofs.Ytngglgkemonibaa.L
