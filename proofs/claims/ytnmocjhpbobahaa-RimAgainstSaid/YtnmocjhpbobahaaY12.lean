/- Sl1: slices.Min, Max, Index, Contains, Clone at int. -/
import Derived.Test.YtnmocjhpbobahaaY11
set_option linter.unusedVariables false
set_option linter.unusedSimpArgs false
set_option linter.unnecessarySimpa false
namespace Go.Proofs.Ytnmocjhpbobahaa.L
open Go Go.RowKit
set_option maxRecDepth 100000
set_option maxHeartbeats 4000000
/-- The least, the greatest of a row that is not empty. -/
def minL (l : List Int) : Int := l.tail.foldl min (nth l 0)
def maxL (l : List Int) : Int := l.tail.foldl max (nth l 0)
theorem foldl_tail {f : Int → Int → Int} {l : List Int} {i : Nat} {a : Int} (h : i < l.length) (h0 : 0 < i) : (l.take (i + 1)).tail.foldl f a = f ((l.take i).tail.foldl f a) (nth l i) := by
  rw [nth_take h, List.tail_append_of_ne_nil (by intro e; have := congrArg List.length e; simp only [List.length_take, List.length_nil] at this; omega), List.foldl_append]; rfl
theorem wMin (l : List Int) (hl : l.length ≤ 17592186043904) (h0 : 0 < l.length) : ∃ c, Try.f44.body = some c ∧ RP (regOf Try.prog env0 25 u44) c (argsSt 0 [ints l]) (endsAs Try.prog Try.f44 (iv (minL l))) := by
  refine ⟨_, rfl, ?_⟩
  generalize hQ : endsAs Try.prog Try.f44 (iv (minL l)) = Q
  simp only [argsSt]
  have h1 : ¬ (l.length : Int) < 1 := by omega
  refine go ?_
  apply rp_loop (fun k σ => ∃ i : Nat, 0 < i ∧ i ≤ l.length ∧ k = l.length - i ∧ ∃ m : Int, m = (l.take i).tail.foldl min (nth l 0) ∧ σ = [(0, ints l), (3, iv m), (4, iv i)]) (l.length - 1)
  · refine ⟨1, by omega, by omega, by omega, nth l 0, ?_, rfl⟩
    cases l with
    | nil => simp at h0
    | cons x l => rfl
  rintro k σ ⟨i, hi0, hi, rfl, m, hm, rfl⟩
  by_cases hil : i < l.length
  case neg =>
    refine go ?_
    have e : m = minL l := by rw [hm, List.take_of_length_le (by omega)]; rfl
    show Q .ret _; refine fin_ret hQ rfl ?_
    rw [e]; rfl
  refine go ?_
  refine nxt (l.length - (i + 1)) (by omega) ⟨i + 1, by omega, by omega, rfl, min m (nth l i), ?_, ?_⟩
  · rw [hm, foldl_tail hil hi0]
  · rfl
def specMin : Spec := spec1 asInts fun l => when (l.length ≤ 17592186043904 ∧ 0 < l.length) (iv (minL l))
theorem okMin : SpecOk 44 specMin := by
  intro us r h
  obtain ⟨x, l, rfl, hl, h⟩ := spec1_eq h
  obtain ⟨⟨h1, h2⟩, rfl⟩ := when_eq h
  rw [asInts_eq hl]
  exact goodBy2 env0_ok Try.func44 rfl (Nat.le_of_ble_eq_true rfl) (by decide) (wMin l h1 h2)
@[simp] theorem sMin (l : List Int) (h : l.length ≤ 17592186043904) (h0 : 0 < l.length) : specMin [ints l] = some (iv (minL l)) := by
  unfold specMin; rw [spec1_v _ _ _ _ (asInts_ints l)]; exact when_pos _ ⟨h, h0⟩
@[simp] theorem callMin {E : Env} {σ : St Unit} {t : Nat} {l : List Operand} : effCall Try.prog E ΩU σ t 44 l = callO E 44 t (argsOf Try.prog ΩU σ [39] l) := eff_call Try.func44 Try.params44
theorem wMax (l : List Int) (hl : l.length ≤ 17592186043904) (h0 : 0 < l.length) : ∃ c, Try.f45.body = some c ∧ RP (regOf Try.prog env0 25 u45) c (argsSt 0 [ints l]) (endsAs Try.prog Try.f45 (iv (maxL l))) := by
  refine ⟨_, rfl, ?_⟩
  generalize hQ : endsAs Try.prog Try.f45 (iv (maxL l)) = Q
  simp only [argsSt]
  have h1 : ¬ (l.length : Int) < 1 := by omega
  refine go ?_
  apply rp_loop (fun k σ => ∃ i : Nat, 0 < i ∧ i ≤ l.length ∧ k = l.length - i ∧ ∃ m : Int, m = (l.take i).tail.foldl max (nth l 0) ∧ σ = [(0, ints l), (3, iv m), (4, iv i)]) (l.length - 1)
  · refine ⟨1, by omega, by omega, by omega, nth l 0, ?_, rfl⟩
    cases l with
    | nil => simp at h0
    | cons x l => rfl
  rintro k σ ⟨i, hi0, hi, rfl, m, hm, rfl⟩
  by_cases hil : i < l.length
  case neg =>
    refine go ?_
    have e : m = maxL l := by rw [hm, List.take_of_length_le (by omega)]; rfl
    show Q .ret _; refine fin_ret hQ rfl ?_
    rw [e]; rfl
  refine go ?_
  refine nxt (l.length - (i + 1)) (by omega) ⟨i + 1, by omega, by omega, rfl, max m (nth l i), ?_, ?_⟩
  · rw [hm, foldl_tail hil hi0]
  · rfl
def specMax : Spec := spec1 asInts fun l => when (l.length ≤ 17592186043904 ∧ 0 < l.length) (iv (maxL l))
theorem okMax : SpecOk 45 specMax := by
  intro us r h
  obtain ⟨x, l, rfl, hl, h⟩ := spec1_eq h
  obtain ⟨⟨h1, h2⟩, rfl⟩ := when_eq h
  rw [asInts_eq hl]
  exact goodBy2 env0_ok Try.func45 rfl (Nat.le_of_ble_eq_true rfl) (by decide) (wMax l h1 h2)
@[simp] theorem sMax (l : List Int) (h : l.length ≤ 17592186043904) (h0 : 0 < l.length) : specMax [ints l] = some (iv (maxL l)) := by
  unfold specMax; rw [spec1_v _ _ _ _ (asInts_ints l)]; exact when_pos _ ⟨h, h0⟩
@[simp] theorem callMax {E : Env} {σ : St Unit} {t : Nat} {l : List Operand} : effCall Try.prog E ΩU σ t 45 l = callO E 45 t (argsOf Try.prog ΩU σ [39] l) := eff_call Try.func45 Try.params45
/-- The first place of a number. -/
def idxI (l : List Int) (v : Int) : Int := if v ∈ l then (l.idxOf v : Int) else -1
theorem wIndex (l : List Int) (v : Int) (hl : l.length ≤ 17592186043904) : ∃ c, Try.f71.body = some c ∧ RP (regOf Try.prog env0 19 u71) c (argsSt 0 [ints l, iv v]) (endsAs Try.prog Try.f71 (iv (idxI l v))) := by
  refine ⟨_, rfl, ?_⟩
  generalize hQ : endsAs Try.prog Try.f71 (iv (idxI l v)) = Q
  simp only [argsSt]
  refine go ?_
  apply rp_loop (fun k σ => ∃ i : Nat, i ≤ l.length ∧ k = l.length - i ∧ (∀ j, j < i → nth l j ≠ v) ∧ σ = [(0, ints l), (1, iv v), (7, iv l.length), (8, iv i)]) l.length
  · exact ⟨0, by omega, by omega, by omega, rfl⟩
  rintro k σ ⟨i, hi, rfl, hno, rfl⟩
  by_cases hil : i < l.length
  case neg =>
    have e : idxI l v = -1 := by
      unfold idxI
      rw [if_neg]
      intro hm
      obtain ⟨j, hj, he⟩ := List.getElem_of_mem hm
      exact hno j (by omega) (by rw [nth_eq hj]; exact he)
    refine go ?_
    show Q .ret _; refine fin_ret hQ rfl ?_
    rw [e]; rfl
  by_cases hv : v = nth l i
  · have e : idxI l v = i := by
      unfold idxI
      rw [if_pos (by rw [hv, nth_eq hil]; exact List.getElem_mem hil)]
      congr 1
      have h1 : l.idxOf v ≤ i := by
        apply Classical.byContradiction
        intro hc
        have hlt : i < l.idxOf v := by omega
        have := List.not_of_lt_findIdx (p := (· == v)) (xs := l) (i := i) (by simpa [List.idxOf] using hlt)
        rw [← nth_eq hil, ← hv] at this
        simp at this
      have h2 : i ≤ l.idxOf v := by
        apply Classical.byContradiction
        intro hc
        have hm : v ∈ l := by rw [hv, nth_eq hil]; exact List.getElem_mem hil
        have hlt : l.idxOf v < l.length := List.idxOf_lt_length_of_mem hm
        exact hno (l.idxOf v) (by omega) (by rw [nth_eq hlt]; exact List.getElem_idxOf hlt)
      omega
    refine go ?_
    show Q .ret _; refine fin_ret hQ rfl ?_
    rw [e]; rfl
  refine go ?_
  refine nxt (l.length - (i + 1)) (by omega) ⟨i + 1, by omega, rfl, ?_, rfl⟩
  intro j hj
  rcases Nat.lt_succ_iff_lt_or_eq.1 hj with h | rfl
  · exact hno j h
  · exact fun e => hv e.symm
def specIndex : Spec := spec2 asInts asInt fun l v => when (l.length ≤ 17592186043904) (iv (idxI l v))
theorem okIndex : SpecOk 71 specIndex := by
  intro us r h
  obtain ⟨x, y, l, v, rfl, hl, hv, h⟩ := spec2_eq h
  obtain ⟨h1, rfl⟩ := when_eq h
  rw [asInts_eq hl, asInt_eq hv]
  exact goodBy2 env0_ok Try.func71 rfl (Nat.le_of_ble_eq_true rfl) (by decide) (wIndex l v h1)
@[simp] theorem sIndex (l : List Int) (v : Int) (h : l.length ≤ 17592186043904) : specIndex [ints l, iv v] = some (iv (idxI l v)) := by
  unfold specIndex; rw [spec2_v (asInts_ints l) (asInt_iv v)]; exact when_pos _ h
@[simp] theorem callIndex {E : Env} {σ : St Unit} {t : Nat} {l : List Operand} : effCall Try.prog E ΩU σ t 71 l = callO E 71 t (argsOf Try.prog ΩU σ [39, 3] l) := eff_call Try.func71 Try.params71
theorem idxI_ge (l : List Int) (v : Int) : (0 ≤ idxI l v) ↔ v ∈ l := by
  unfold idxI
  split
  · next h => simp [h]
  · next h => simp [h]
abbrev EContains : Env := ext env0 71 specIndex
theorem wContains (l : List Int) (v : Int) (hl : l.length ≤ 17592186043904) : ∃ c, Try.f63.body = some c ∧ RP (regOf Try.prog EContains 9 u63) c (argsSt 0 [ints l, iv v]) (endsAs Try.prog Try.f63 (bv (decide (v ∈ l)))) := by
  refine ⟨_, rfl, ?_⟩
  generalize hQ : endsAs Try.prog Try.f63 (bv (decide (v ∈ l))) = Q
  simp only [argsSt]
  refine go ?_
  have e : decide (0 ≤ idxI l v) = decide (v ∈ l) := by rw [decide_eq_decide]; exact idxI_ge l v
  show Q .ret _; refine fin_ret hQ rfl ?_
  rw [← e]; rfl
def specContains : Spec := spec2 asInts asInt fun l v => when (l.length ≤ 17592186043904) (bv (decide (v ∈ l)))
theorem okContains : SpecOk 63 specContains := by
  intro us r h
  obtain ⟨x, y, l, v, rfl, hl, hv, h⟩ := spec2_eq h
  obtain ⟨h1, rfl⟩ := when_eq h
  rw [asInts_eq hl, asInt_eq hv]
  exact goodBy2 (ext_ok env0_ok okIndex) Try.func63 rfl (Nat.le_of_ble_eq_true rfl) (by decide) (wContains l v h1)
@[simp] theorem sContains (l : List Int) (v : Int) (h : l.length ≤ 17592186043904) : specContains [ints l, iv v] = some (bv (decide (v ∈ l))) := by
  unfold specContains; rw [spec2_v (asInts_ints l) (asInt_iv v)]; exact when_pos _ h
@[simp] theorem callContains {E : Env} {σ : St Unit} {t : Nat} {l : List Operand} : effCall Try.prog E ΩU σ t 63 l = callO E 63 t (argsOf Try.prog ΩU σ [39, 3] l) := eff_call Try.func63 Try.params63
end Go.Proofs.Ytnmocjhpbobahaa.L
