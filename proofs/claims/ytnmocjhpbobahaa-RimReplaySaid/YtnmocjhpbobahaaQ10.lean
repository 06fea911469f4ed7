/- Sl1: slices.Min, Max, Index, Contains, Clone at int. T51: cmp.Compare, cmp.Or at int; graph.compare. -/
import Derived.Test.YtnmocjhpbobahaaQ9
set_option linter.unusedVariables false
set_option linter.unusedSimpArgs false
set_option linter.unnecessarySimpa false
namespace Go.Proofs.Ytnmocjhpbobahaa.L
open Go Go.RowKit
set_option maxRecDepth 100000
set_option maxHeartbeats 4000000
/-- The least, the greatest of a row that is not empty. -/
def minL (l : List Int) : Int := l.tail.foldl min (nth l 0)
def maxL (l : List Int) : Int := l.tail.foldl max (nth l 0)
theorem foldl_tail {f : Int → Int → Int} {l : List Int} {i : Nat} {a : Int} (h : i < l.length) (h0 : 0 < i) : (l.take (i + 1)).tail.foldl f a = f ((l.take i).tail.foldl f a) (nth l i) := by
  rw [nth_take h, List.tail_append_of_ne_nil (by intro e; have := congrArg List.length e; simp only [List.length_take, List.length_nil] at this; omega), List.foldl_append]; rfl
theorem wMin (l : List Int) (hl : l.length ≤ 17592186043904) (h0 : 0 < l.length) : ∃ c, Try.f44.body = some c ∧ RP (regOf Try.prog env0 25 u44) c (argsSt 0 [ints l]) (endsAs Try.prog Try.f44 (iv (minL l))) := by
  refine ⟨_, rfl, ?_⟩
  generalize hQ : endsAs Try.prog Try.f44 (iv (minL l)) = Q
  simp only [argsSt]
  have h1 : ¬ (l.length : Int) < 1 := by omega
  refine go ?_
  apply rp_loop (fun k σ => ∃ i : Nat, 0 < i ∧ i ≤ l.length ∧ k = l.length - i ∧ ∃ m : Int, m = (l.take i).tail.foldl min (nth l 0) ∧ σ = [(0, ints l), (3, iv m), (4, iv i)]) (l.length - 1)
  · refine ⟨1, by omega, by omega, by omega, nth l 0, ?_, rfl⟩
    cases l with
    | nil => simp at h0
    | cons x l => rfl
  rintro k σ ⟨i, hi0, hi, rfl, m, hm, rfl⟩
  by_cases hil : i < l.length
  case neg =>
    refine go ?_
    have e : m = minL l := by rw [hm, List.take_of_length_le (by omega)]; rfl
    show Q .ret _; refine fin_ret hQ rfl ?_
    rw [e]; rfl
  refine go ?_
  refine nxt (l.length - (i + 1)) (by omega) ⟨i + 1, by omega, by omega, rfl, min m (nth l i), ?_, ?_⟩
  · rw [hm, foldl_tail hil hi0]
  · rfl
def specMin : Spec := spec1 asInts fun l => when (l.length ≤ 17592186043904 ∧ 0 < l.length) (iv (minL l))
theorem okMin : SpecOk 44 specMin := by
  intro us r h
  obtain ⟨x, l, rfl, hl, h⟩ := spec1_eq h
  obtain ⟨⟨h1, h2⟩, rfl⟩ := when_eq h
  rw [asInts_eq hl]
  exact goodBy2 env0_ok Try.func44 rfl (Nat.le_of_ble_eq_true rfl) (by decide) (wMin l h1 h2)
@[simp] theorem sMin (l : List Int) (h : l.length ≤ 17592186043904) (h0 : 0 < l.length) : specMin [ints l] = some (iv (minL l)) := by
  unfold specMin; rw [spec1_v _ _ _ _ (asInts_ints l)]; exact when_pos _ ⟨h, h0⟩
@[simp] theorem callMin {E : Env} {σ : St Unit} {t : Nat} {l : List Operand} : effCall Try.prog E ΩU σ t 44 l = callO E 44 t (argsOf Try.prog ΩU σ [39] l) := eff_call Try.func44 Try.params44
theorem wMax (l : List Int) (hl : l.length ≤ 17592186043904) (h0 : 0 < l.length) : ∃ c, Try.f45.body = some c ∧ RP (regOf Try.prog env0 25 u45) c (argsSt 0 [ints l]) (endsAs Try.prog Try.f45 (iv (maxL l))) := by
  refine ⟨_, rfl, ?_⟩
  generalize hQ : endsAs Try.prog Try.f45 (iv (maxL l)) = Q
  simp only [argsSt]
  have h1 : ¬ (l.length : Int) < 1 := by omega
  refine go ?_
  apply rp_loop (fun k σ => ∃ i : Nat, 0 < i ∧ i ≤ l.length ∧ k = l.length - i ∧ ∃ m : Int, m = (l.take i).tail.foldl max (nth l 0) ∧ σ = [(0, ints l), (3, iv m), (4, iv i)]) (l.length - 1)
  · refine ⟨1, by omega, by omega, by omega, nth l 0, ?_, rfl⟩
    cases l with
    | nil => simp at h0
    | cons x l => rfl
  rintro k σ ⟨i, hi0, hi, rfl, m, hm, rfl⟩
  by_cases hil : i < l.length
  case neg =>
    refine go ?_
    have e : m = maxL l := by rw [hm, List.take_of_length_le (by omega)]; rfl
    show Q .ret _; refine fin_ret hQ rfl ?_
    rw [e]; rfl
  refine go ?_
  refine nxt (l.length - (i + 1)) (by omega) ⟨i + 1, by omega, by omega, rfl, max m (nth l i), ?_, ?_⟩
  · rw [hm, foldl_tail hil hi0]
  · rfl
def specMax : Spec := spec1 asInts fun l => when (l.length ≤ 17592186043904 ∧ 0 < l.length) (iv (maxL l))
theorem okMax : SpecOk 45 specMax := by
  intro us r h
  obtain ⟨x, l, rfl, hl, h⟩ := spec1_eq h
  obtain ⟨⟨h1, h2⟩, rfl⟩ := when_eq h
  rw [asInts_eq hl]
  exact goodBy2 env0_ok Try.func45 rfl (Nat.le_of_ble_eq_true rfl) (by decide) (wMax l h1 h2)
@[simp] theorem sMax (l : List Int) (h : l.length ≤ 17592186043904) (h0 : 0 < l.length) : specMax [ints l] = some (iv (maxL l)) := by
  unfold specMax; rw [spec1_v _ _ _ _ (asInts_ints l)]; exact when_pos _ ⟨h, h0⟩
@[simp] theorem callMax {E : Env} {σ : St Unit} {t : Nat} {l : List Operand} : effCall Try.prog E ΩU σ t 45 l = callO E 45 t (argsOf Try.prog ΩU σ [39] l) := eff_call Try.func45 Try.params45
/-- The first place of a number. -/
def idxI (l : List Int) (v : Int) : Int := if v ∈ l then (l.idxOf v : Int) else -1
theorem wIndex (l : List Int) (v : Int) (hl : l.length ≤ 17592186043904) : ∃ c, Try.f71.body = some c ∧ RP (regOf Try.prog env0 19 u71) c (argsSt 0 [ints l, iv v]) (endsAs Try.prog Try.f71 (iv (idxI l v))) := by
  refine ⟨_, rfl, ?_⟩
  generalize hQ : endsAs Try.prog Try.f71 (iv (idxI l v)) = Q
  simp only [argsSt]
  refine go ?_
  apply rp_loop (fun k σ => ∃ i : Nat, i ≤ l.length ∧ k = l.length - i ∧ (∀ j, j < i → nth l j ≠ v) ∧ σ = [(0, ints l), (1, iv v), (7, iv l.length), (8, iv i)]) l.length
  · exact ⟨0, by omega, by omega, by omega, rfl⟩
  rintro k σ ⟨i, hi, rfl, hno, rfl⟩
  by_cases hil : i < l.length
  case neg =>
    have e : idxI l v = -1 := by
      unfold idxI
      rw [if_neg]
      intro hm
      obtain ⟨j, hj, he⟩ := List.getElem_of_mem hm
      exact hno j (by omega) (by rw [nth_eq hj]; exact he)
    refine go ?_
    show Q .ret _; refine fin_ret hQ rfl ?_
    rw [e]; rfl
  by_cases hv : v = nth l i
  · have e : idxI l v = i := by
      unfold idxI
      rw [if_pos (by rw [hv, nth_eq hil]; exact List.getElem_mem hil)]
      congr 1
      have h1 : l.idxOf v ≤ i := by
        apply Classical.byContradiction
        intro hc
        have hlt : i < l.idxOf v := by omega
        have := List.not_of_lt_findIdx (p := (· == v)) (xs := l) (i := i) (by simpa [List.idxOf] using hlt)
        rw [← nth_eq hil, ← hv] at this
        simp at this
      have h2 : i ≤ l.idxOf v := by
        apply Classical.byContradiction
        intro hc
        have hm : v ∈ l := by rw [hv, nth_eq hil]; exact List.getElem_mem hil
        have hlt : l.idxOf v < l.length := List.idxOf_lt_length_of_mem hm
        exact hno (l.idxOf v) (by omega) (by rw [nth_eq hlt]; exact List.getElem_idxOf hlt)
      omega
    refine go ?_
    show Q .ret _; refine fin_ret hQ rfl ?_
    rw [e]; rfl
  refine go ?_
  refine nxt (l.length - (i + 1)) (by omega) ⟨i + 1, by omega, rfl, ?_, rfl⟩
  intro j hj
  rcases Nat.lt_succ_iff_lt_or_eq.1 hj with h | rfl
  · exact hno j h
  · exact fun e => hv e.symm
def specIndex : Spec := spec2 asInts asInt fun l v => when (l.length ≤ 17592186043904) (iv (idxI l v))
theorem okIndex : SpecOk 71 specIndex := by
  intro us r h
  obtain ⟨x, y, l, v, rfl, hl, hv, h⟩ := spec2_eq h
  obtain ⟨h1, rfl⟩ := when_eq h
  rw [asInts_eq hl, asInt_eq hv]
  exact goodBy2 env0_ok Try.func71 rfl (Nat.le_of_ble_eq_true rfl) (by decide) (wIndex l v h1)
@[simp] theorem sIndex (l : List Int) (v : Int) (h : l.length ≤ 17592186043904) : specIndex [ints l, iv v] = some (iv (idxI l v)) := by
  unfold specIndex; rw [spec2_v (asInts_ints l) (asInt_iv v)]; exact when_pos _ h
@[simp] theorem callIndex {E : Env} {σ : St Unit} {t : Nat} {l : List Operand} : effCall Try.prog E ΩU σ t 71 l = callO E 71 t (argsOf Try.prog ΩU σ [39, 3] l) := eff_call Try.func71 Try.params71
theorem idxI_ge (l : List Int) (v : Int) : (0 ≤ idxI l v) ↔ v ∈ l := by
  unfold idxI
  split
  · next h => simp [h]
  · next h => simp [h]
abbrev EContains : Env := ext env0 71 specIndex
theorem wContains (l : List Int) (v : Int) (hl : l.length ≤ 17592186043904) : ∃ c, Try.f63.body = some c ∧ RP (regOf Try.prog EContains 9 u63) c (argsSt 0 [ints l, iv v]) (endsAs Try.prog Try.f63 (bv (decide (v ∈ l)))) := by
  refine ⟨_, rfl, ?_⟩
  generalize hQ : endsAs Try.prog Try.f63 (bv (decide (v ∈ l))) = Q
  simp only [argsSt]
  refine go ?_
  have e : decide (0 ≤ idxI l v) = decide (v ∈ l) := by rw [decide_eq_decide]; exact idxI_ge l v
  show Q .ret _; refine fin_ret hQ rfl ?_
  rw [← e]; rfl
def specContains : Spec := spec2 asInts asInt fun l v => when (l.length ≤ 17592186043904) (bv (decide (v ∈ l)))
theorem okContains : SpecOk 63 specContains := by
  intro us r h
  obtain ⟨x, y, l, v, rfl, hl, hv, h⟩ := spec2_eq h
  obtain ⟨h1, rfl⟩ := when_eq h
  rw [asInts_eq hl, asInt_eq hv]
  exact goodBy2 (ext_ok env0_ok okIndex) Try.func63 rfl (Nat.le_of_ble_eq_true rfl) (by decide) (wContains l v h1)
@[simp] theorem sContains (l : List Int) (v : Int) (h : l.length ≤ 17592186043904) : specContains [ints l, iv v] = some (bv (decide (v ∈ l))) := by
  unfold specContains; rw [spec2_v (asInts_ints l) (asInt_iv v)]; exact when_pos _ h
@[simp] theorem callContains {E : Env} {σ : St Unit} {t : Nat} {l : List Operand} : effCall Try.prog E ΩU σ t 63 l = callO E 63 t (argsOf Try.prog ΩU σ [39, 3] l) := eff_call Try.func63 Try.params63
end Go.Proofs.Ytnmocjhpbobahaa.L
namespace Go.Proofs.Ytnmocjhpbobahaa.L
open Go Go.RowKit
set_option maxRecDepth 100000
set_option maxHeartbeats 4000000
theorem w80 (x : Int) : ∃ c, Try.f79.body = some c ∧ RP (regOf Try.prog env0 6 u79) c (argsSt 0 [iv x]) (endsAs Try.prog Try.f79 (bv false)) := by
  refine ⟨_, rfl, ?_⟩
  generalize hQ : endsAs Try.prog Try.f79 (bv false) = Q
  simp only [argsSt]
  refine go ?_
  show Q .ret _; refine fin_ret hQ rfl ?_
  rfl
def spec80 : Spec := spec1 asInt fun _ => some (bv false)
theorem ok80 : SpecOk 79 spec80 := by
  intro us r h
  obtain ⟨x, v, rfl, hv, h⟩ := spec1_eq h
  obtain rfl := Option.some.inj h
  rw [asInt_eq hv]
  exact goodBy2 env0_ok Try.func79 rfl (Nat.le_of_ble_eq_true rfl) (by decide) (w80 v)
@[simp] theorem s80 (v : Int) : spec80 [iv v] = some (bv false) := by simp [spec80]
@[simp] theorem call80 {E : Env} {σ : St Unit} {t : Nat} {l : List Operand} : effCall Try.prog E ΩU σ t 79 l = callO E 79 t (argsOf Try.prog ΩU σ [3] l) := eff_call Try.func79 Try.params79
def cmp3 (a b : Int) : Int := if a < b then -1 else if b < a then 1 else 0
abbrev E67 : Env := ext env0 79 spec80
theorem w67 (a b : Int) : ∃ c, Try.f65.body = some c ∧ RP (regOf Try.prog E67 20 u65) c (argsSt 0 [iv a, iv b]) (endsAs Try.prog Try.f65 (iv (cmp3 a b))) := by
  refine ⟨_, rfl, ?_⟩
  generalize hQ : endsAs Try.prog Try.f65 (iv (cmp3 a b)) = Q
  simp only [argsSt]
  unfold cmp3 at hQ
  by_cases h1 : a < b
  · rw [if_pos h1] at hQ
    refine go ?_
    show Q .ret _; refine fin_ret hQ rfl ?_
    rfl
  rw [if_neg h1] at hQ
  by_cases h2 : b < a
  · rw [if_pos h2] at hQ
    refine go ?_
    show Q .ret _; refine fin_ret hQ rfl ?_
    rfl
  rw [if_neg h2] at hQ
  refine go ?_
  show Q .ret _; refine fin_ret hQ rfl ?_
  rfl
def spec67 : Spec := spec2 asInt asInt fun a b => some (iv (cmp3 a b))
theorem ok67 : SpecOk 65 spec67 := by
  intro us r h
  obtain ⟨x, y, a, b, rfl, ha, hb, h⟩ := spec2_eq h
  obtain rfl := Option.some.inj h
  rw [asInt_eq ha, asInt_eq hb]
  exact goodBy2 (ext_ok env0_ok ok80) Try.func65 rfl (Nat.le_of_ble_eq_true rfl) (by decide) (w67 a b)
@[simp] theorem s67 (a b : Int) : spec67 [iv a, iv b] = some (iv (cmp3 a b)) := by unfold spec67; rw [spec2_v (asInt_iv a) (asInt_iv b)]
@[simp] theorem call67 {E : Env} {σ : St Unit} {t : Nat} {l : List Operand} : effCall Try.prog E ΩU σ t 65 l = callO E 65 t (argsOf Try.prog ΩU σ [3, 3] l) := eff_call Try.func65 Try.params65
def orL : List Int → Int
  | [] => 0
  | x :: l => if x ≠ 0 then x else orL l
theorem w66 (l : List Int) (hl : l.length ≤ 17592186043904) : ∃ c, Try.f64.body = some c ∧ RP (regOf Try.prog env0 18 u64) c (argsSt 0 [ints l]) (endsAs Try.prog Try.f64 (iv (orL l))) := by
  refine ⟨_, rfl, ?_⟩
  generalize hQ : endsAs Try.prog Try.f64 (iv (orL l)) = Q
  simp only [argsSt]
  refine go ?_
  apply rp_loop (fun k σ => ∃ i : Nat, i ≤ l.length ∧ k = l.length - i ∧ orL l = orL (l.drop i) ∧ σ = [(3, iv 0), (6, ints l), (7, iv l.length), (8, iv i)]) l.length
  · exact ⟨0, by omega, by omega, rfl, rfl⟩
  rintro k σ ⟨i, hi, rfl, hor, rfl⟩
  by_cases hil : i < l.length
  case neg =>
    rw [List.drop_of_length_le (by omega)] at hor
    rw [hor] at hQ
    refine go ?_
    show Q .ret _; refine fin_ret hQ rfl ?_
    rfl
  rw [List.drop_eq_getElem_cons hil, ← nth_eq hil] at hor
  by_cases h0 : nth l i = 0
  · rw [orL, if_neg (by simpa using h0)] at hor
    refine go ?_
    exact nxt (l.length - (i + 1)) (by omega) ⟨i + 1, by omega, by omega, hor, rfl⟩
  · rw [orL, if_pos h0] at hor
    rw [hor] at hQ
    refine go ?_
    show Q .ret _; refine fin_ret hQ rfl ?_
    rfl
def spec66 : Spec := spec1 asInts fun l => when (l.length ≤ 17592186043904) (iv (orL l))
theorem ok66 : SpecOk 64 spec66 := by
  intro us r h
  obtain ⟨x, l, rfl, hl, h⟩ := spec1_eq h
  obtain ⟨hlen, rfl⟩ := when_eq h
  rw [asInts_eq hl]
  exact goodBy2 env0_ok Try.func64 rfl (Nat.le_of_ble_eq_true rfl) (by decide) (w66 l hlen)
@[simp] theorem s66 (l : List Int) (h : l.length ≤ 17592186043904) : spec66 [ints l] = some (iv (orL l)) := by
  unfold spec66; rw [spec1_v _ _ _ _ (asInts_ints l)]; exact when_pos _ h
@[simp] theorem call66 {E : Env} {σ : St Unit} {t : Nat} {l : List Operand} : effCall Try.prog E ΩU σ t 64 l = callO E 64 t (argsOf Try.prog ΩU σ [39] l) := eff_call Try.func64 Try.params64
def cmpI (a b c d : Int) : Int := orL [cmp3 a c, cmp3 b d]
abbrev ed (e : Int × Int) : SV Unit := ⟨.agg, [.c (.sc (.int .i64 e.1)), .c (.sc (.int .i64 e.2))]⟩
theorem cmpI_lt (e f : Int × Int) : cmpI e.1 e.2 f.1 f.2 < 0 ↔ ltE e f := by
  obtain ⟨a, b⟩ := e
  obtain ⟨c, d⟩ := f
  simp only [cmpI, orL, cmp3, ltE]
  by_cases h1 : a < c <;> by_cases h2 : c < a <;> by_cases h3 : b < d <;> by_cases h4 : d < b <;> simp [h1, h2, h3, h4] <;> omega
abbrev E51 : Env := ext (ext env0 65 spec67) 64 spec66
@[simp] theorem s66_2 (a b : Int) : spec66 [⟨.one, [.c (.sl false 1 () [.sc (.int .i64 a), .sc (.int .i64 b)])]⟩] = some (iv (orL [a, b])) := s66 [a, b] (by simp)
theorem w51 (e f : Int × Int) : ∃ c, Try.f48.body = some c ∧ RP (regOf Try.prog E51 17 u48) c (argsSt 0 [ed e, ed f]) (endsAs Try.prog Try.f48 (iv (cmpI e.1 e.2 f.1 f.2))) := by
  refine ⟨_, rfl, ?_⟩
  generalize hQ : endsAs Try.prog Try.f48 (iv (cmpI e.1 e.2 f.1 f.2)) = Q
  simp only [argsSt]
  refine go ?_
  show Q .ret _; refine fin_ret hQ rfl ?_
  rfl
def asEd : SV Unit → Option (Int × Int)
  | ⟨.agg, [.c (.sc (.int .i64 a)), .c (.sc (.int .i64 b))]⟩ => some (a, b)
  | _ => none
theorem asEd_eq {v : SV Unit} {e : Int × Int} (h : asEd v = some e) : v = ed e := by
  unfold asEd at h
  split at h
  · simp only [Option.some.injEq] at h; subst h; rfl
  · cases h
def spec51 : Spec := spec2 asEd asEd fun e f => some (iv (cmpI e.1 e.2 f.1 f.2))
theorem ok51 : SpecOk 48 spec51 := by
  intro us r h
  obtain ⟨x, y, e, f, rfl, he, hf, h⟩ := spec2_eq h
  obtain rfl := Option.some.inj h
  rw [asEd_eq he, asEd_eq hf]
  exact goodBy2 (ext_ok (ext_ok env0_ok ok67) ok66) Try.func48 rfl (Nat.le_of_ble_eq_true rfl) (by decide) (w51 e f)
@[simp] theorem s51 (a b c d : Int) : spec51 [⟨.agg, [.c (.sc (.int .i64 a)), .c (.sc (.int .i64 b))]⟩, ⟨.agg, [.c (.sc (.int .i64 c)), .c (.sc (.int .i64 d))]⟩] = some (iv (cmpI a b c d)) := rfl
@[simp] theorem call51 {E : Env} {σ : St Unit} {t : Nat} {l : List Operand} : effCall Try.prog E ΩU σ t 48 l = callO E 48 t (argsOf Try.prog ΩU σ [57, 57] l) := eff_call Try.func48 Try.params48
end Go.Proofs.Ytnmocjhpbobahaa.L
