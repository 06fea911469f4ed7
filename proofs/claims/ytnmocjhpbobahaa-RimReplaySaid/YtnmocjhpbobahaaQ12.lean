/- Sl2: slices.Clone, BinarySearch, Concat at int. Sl3: slices.Concat at int. -/
import Derived.Test.YtnmocjhpbobahaaQ10
import Derived.Test.YtnmocjhpbobahaaQ11
import Derived.Test.YtnmocjhpbobahaaQ8
set_option linter.unusedVariables false
set_option linter.unusedSimpArgs false
set_option linter.unnecessarySimpa false
namespace Go.Proofs.Ytnmocjhpbobahaa.L
open Go Go.RowKit
set_option maxRecDepth 100000
set_option maxHeartbeats 4000000
/-! ### Clone (of what is not nil) -/
theorem wClone (l : List Int) (hl : l.length ≤ 17592186043904) (h0 : 0 < l.length) : ∃ c, Try.f73.body = some c ∧ RP (regOf Try.prog env0 8 u73) c (argsSt 0 [ints l]) (endsAs Try.prog Try.f73 (ow l)) := by
  refine ⟨_, rfl, ?_⟩
  generalize hQ : endsAs Try.prog Try.f73 (ow l) = Q
  simp only [argsSt]
  refine go ?_
  show Q .ret _; refine fin_ret hQ rfl ?_
  rfl
def specClone : Spec := spec1 asInts fun l => when (l.length ≤ 17592186043904 ∧ 0 < l.length) (ow l)
theorem okClone : SpecOk 73 specClone := by
  intro us r h
  obtain ⟨x, l, rfl, hl, h⟩ := spec1_eq h
  obtain ⟨⟨h1, h2⟩, rfl⟩ := when_eq h
  rw [asInts_eq hl]
  exact goodBy2 env0_ok Try.func73 rfl (Nat.le_of_ble_eq_true rfl) (by decide) (wClone l h1 h2)
@[simp] theorem sClone (l : List Int) (h : l.length ≤ 17592186043904) (h0 : 0 < l.length) : specClone [ints l] = some (ow l) := by
  unfold specClone; rw [spec1_v _ _ _ _ (asInts_ints l)]; exact when_pos _ ⟨h, h0⟩
@[simp] theorem callClone {E : Env} {σ : St Unit} {t : Nat} {l : List Operand} : effCall Try.prog E ΩU σ t 73 l = callO E 73 t (argsOf Try.prog ΩU σ [39] l) := eff_call Try.func73 Try.params73
/-! ### BinarySearch -/
theorem wLess (a b : Int) : ∃ c, Try.f86.body = some c ∧ RP (regOf Try.prog E67 17 u86) c (argsSt 0 [iv a, iv b]) (endsAs Try.prog Try.f86 (bv (decide (a < b)))) := by
  refine ⟨_, rfl, ?_⟩
  generalize hQ : endsAs Try.prog Try.f86 (bv (decide (a < b))) = Q
  simp only [argsSt]
  refine go ?_
  show Q .ret _; refine fin_ret hQ rfl ?_
  rfl
def specLess : Spec := spec2 asInt asInt fun a b => some (bv (decide (a < b)))
theorem okLess : SpecOk 86 specLess := by
  intro us r h
  obtain ⟨x, y, a, b, rfl, ha, hb, h⟩ := spec2_eq h
  obtain rfl := Option.some.inj h
  rw [asInt_eq ha, asInt_eq hb]
  exact goodBy2 (ext_ok env0_ok ok80) Try.func86 rfl (Nat.le_of_ble_eq_true rfl) (by decide) (wLess a b)
@[simp] theorem sLess (a b : Int) : specLess [iv a, iv b] = some (bv (decide (a < b))) := by unfold specLess; rw [spec2_v (asInt_iv a) (asInt_iv b)]
@[simp] theorem callLess {E : Env} {σ : St Unit} {t : Nat} {l : List Operand} : effCall Try.prog E ΩU σ t 86 l = callO E 86 t (argsOf Try.prog ΩU σ [3, 3] l) := eff_call Try.func86 Try.params86
theorem wNaN (x : Int) : ∃ c, Try.f91.body = some c ∧ RP (regOf Try.prog env0 6 u91) c (argsSt 0 [iv x]) (endsAs Try.prog Try.f91 (bv false)) := by
  refine ⟨_, rfl, ?_⟩
  generalize hQ : endsAs Try.prog Try.f91 (bv false) = Q
  simp only [argsSt]
  refine go ?_
  show Q .ret _; refine fin_ret hQ rfl ?_
  rfl
theorem okNaN : SpecOk 91 spec80 := by
  intro us r h
  obtain ⟨x, v, rfl, hv, h⟩ := spec1_eq h
  obtain rfl := Option.some.inj h
  rw [asInt_eq hv]
  exact goodBy2 env0_ok Try.func91 rfl (Nat.le_of_ble_eq_true rfl) (by decide) (wNaN v)
@[simp] theorem callNaN {E : Env} {σ : St Unit} {t : Nat} {l : List Operand} : effCall Try.prog E ΩU σ t 91 l = callO E 91 t (argsOf Try.prog ΩU σ [3] l) := eff_call Try.func91 Try.params91
/-- The first place from which on a row is not below v. -/
def lowI (l : List Int) (v : Int) : Nat := (l.takeWhile (fun x => decide (x < v))).length
theorem low_eq {l : List Int} {v : Int} {i : Nat} (hi : i ≤ l.length) (h1 : ∀ j, j < i → nth l j < v) (h2 : i < l.length → v ≤ nth l i) : lowI l v = i := by
  induction l generalizing i with
  | nil => simp at hi; subst hi; rfl
  | cons x l ih =>
    unfold lowI
    rw [List.takeWhile_cons]
    cases i with
    | zero =>
      have := h2 (by simp)
      have hx : ¬ x < v := by simpa [nth] using this
      simp [hx]
    | succ i =>
      have hx : x < v := by simpa [nth] using h1 0 (by omega)
      simp only [hx, decide_true, if_true, List.length_cons]
      congr 1
      exact ih (by simp at hi; omega) (fun j hj => by simpa [nth] using h1 (j + 1) (by omega)) (fun h => by simpa [nth] using h2 (by simpa using h))
theorem low_mem {l : List Int} {v : Int} (hs : l.Pairwise (· ≤ ·)) : (lowI l v < l.length ∧ nth l (lowI l v) = v) ↔ v ∈ l := by
  constructor
  · rintro ⟨h1, h2⟩
    rw [← h2, nth_eq h1]; exact List.getElem_mem h1
  · intro hm
    induction l with
    | nil => cases hm
    | cons x l ih =>
      rw [List.pairwise_cons] at hs
      unfold lowI
      rw [List.takeWhile_cons]
      by_cases hx : x < v
      · simp only [hx, decide_true, if_true, List.length_cons]
        have hm' : v ∈ l := by
          rcases List.mem_cons.1 hm with rfl | h
          · omega
          · exact h
        obtain ⟨a, b⟩ := ih hs.2 hm'
        exact ⟨by unfold lowI at a; omega, by simpa [nth, lowI] using b⟩
      · have : x = v := by
          rcases List.mem_cons.1 hm with rfl | h
          · rfl
          · have := hs.1 v h; omega
        simp [hx, nth, this]
abbrev EBs : Env := ext (ext env0 86 specLess) 91 spec80
theorem EBs_ok : EnvOk Try.prog EBs := ext_ok (ext_ok env0_ok okLess) okNaN
theorem sorted_nth {l : List Int} (hs : l.Pairwise (· ≤ ·)) {i j : Nat} (hij : i ≤ j) (hj : j < l.length) : nth l i ≤ nth l j := by
  rcases Nat.lt_or_eq_of_le hij with h | rfl
  · rw [nth_eq hj, nth_eq (by omega)]; exact List.pairwise_iff_getElem.1 hs i j (by omega) hj h
  · exact Int.le_refl _
theorem wBs (l : List Int) (v : Int) (hl : l.length ≤ 17592186043904) (hs : l.Pairwise (· ≤ ·)) : ∃ c, Try.f70.body = some c ∧ RP (regOf Try.prog EBs 54 u70) c (argsSt 0 [ints l, iv v]) (endsAs Try.prog Try.f70 ⟨.tup [none, none], [.c (.sc (.int .i64 (lowI l v))), .c (.sc (.bool (decide (v ∈ l))))]⟩) := by
  refine ⟨_, rfl, ?_⟩
  generalize hQ : endsAs Try.prog Try.f70 ⟨.tup [none, none], [.c (.sc (.int .i64 (lowI l v))), .c (.sc (.bool (decide (v ∈ l))))]⟩ = Q
  simp only [argsSt]
  refine go ?_
  apply rp_loop (fun k σ => ∃ i j : Nat, i ≤ j ∧ j ≤ l.length ∧ k = j - i ∧ (∀ x, x < i → nth l x < v) ∧ (∀ x, j ≤ x → x < l.length → v ≤ nth l x) ∧ σ = [(0, ints l), (1, iv v), (6, iv l.length), (7, iv i), (8, iv j)]) l.length
  · exact ⟨0, l.length, by omega, by omega, by omega, by omega, by omega, rfl⟩
  rintro k σ ⟨i, j, hij, hj, rfl, hlo, hhi, rfl⟩
  by_cases hlt : i < j
  case neg =>
    obtain rfl : i = j := by omega
    have hlow : lowI l v = i := low_eq hj hlo (fun h => hhi i (Nat.le_refl _) h)
    have hm := low_mem (v := v) hs
    rw [hlow] at hm
    by_cases hil : i < l.length
    · by_cases hv : nth l i = v
      · have hd : decide (v ∈ l) = true := decide_eq_true (hm.1 ⟨hil, hv⟩)
        refine go ?_
        show Q .ret _; refine fin_ret hQ rfl ?_
        rw [hlow, hd]; rfl
      · have hd : decide (v ∈ l) = false := decide_eq_false fun h => hv (hm.2 h).2
        refine go ?_
        show Q .ret _; refine fin_ret hQ rfl ?_
        rw [hlow, hd]; rfl
    · have hd : decide (v ∈ l) = false := decide_eq_false fun h => hil (hm.2 h).1
      refine go ?_
      show Q .ret _; refine fin_ret hQ rfl ?_
      rw [hlow, hd]; rfl
  obtain ⟨h1, h2⟩ := halfN_lt hlt
  have h3 : halfN i j < l.length := by omega
  by_cases hv : nth l (halfN i j) < v
  · refine go ?_
    rw [inBlock_normal]
    refine nxt (j - (halfN i j + 1)) (by omega) ⟨halfN i j + 1, j, by omega, hj, rfl, ?_, hhi, ?_⟩
    · intro x hx
      have := sorted_nth hs (i := x) (j := halfN i j) (by omega) h3
      omega
    · rfl
  · refine go ?_
    rw [inBlock_normal]
    refine nxt (halfN i j - i) (by omega) ⟨i, halfN i j, h1, by omega, rfl, hlo, ?_, ?_⟩
    · intro x hx hxl
      have := sorted_nth hs (i := halfN i j) (j := x) hx hxl
      omega
    · rfl
abbrev posR (n : Int) (b : Bool) : SV Unit := ⟨.tup [none, none], [.c (.sc (.int .i64 n)), .c (.sc (.bool b))]⟩
def specBs : Spec := spec2 asInts asInt fun l v => when (l.length ≤ 17592186043904 ∧ l.Pairwise (· ≤ ·)) (posR (lowI l v) (decide (v ∈ l)))
theorem okBs : SpecOk 70 specBs := by
  intro us r h
  obtain ⟨x, y, l, v, rfl, hl, hv, h⟩ := spec2_eq h
  obtain ⟨⟨h1, h2⟩, rfl⟩ := when_eq h
  rw [asInts_eq hl, asInt_eq hv]
  exact goodBy2 EBs_ok Try.func70 rfl (Nat.le_of_ble_eq_true rfl) (by decide) (wBs l v h1 h2)
@[simp] theorem sBs (l : List Int) (v : Int) (h : l.length ≤ 17592186043904) (h2 : l.Pairwise (· ≤ ·)) : specBs [ints l, iv v] = some (posR (lowI l v) (decide (v ∈ l))) := by
  unfold specBs; rw [spec2_v (asInts_ints l) (asInt_iv v)]; exact when_pos _ ⟨h, h2⟩
@[simp] theorem callBs {E : Env} {σ : St Unit} {t : Nat} {l : List Operand} : effCall Try.prog E ΩU σ t 70 l = callO E 70 t (argsOf Try.prog ΩU σ [39, 3] l) := eff_call Try.func70 Try.params70
end Go.Proofs.Ytnmocjhpbobahaa.L
namespace Go.Proofs.Ytnmocjhpbobahaa.L
open Go Go.RowKit
set_option maxRecDepth 100000
set_option maxHeartbeats 4000000
def specGrow : Spec := fun us => match us with
  | [⟨.one, [.c (.sc (.slice none 0 0))]⟩, x] => match asInt x with
    | some n => when (0 ≤ n ∧ n.toNat < 17592186044416) (ow [])
    | none => none
  | _ => none
theorem okGrow : SpecOk 92 specGrow := by
  intro us r h
  unfold specGrow at h
  split at h
  · next x =>
    split at h
    · next n hn =>
      obtain ⟨⟨h1, h2⟩, rfl⟩ := when_eq h
      rw [asInt_eq hn]
      have := grow_ok n.toNat (by omega)
      rw [show (n.toNat : Int) = n by omega] at this
      exact this
    · cases h
  · cases h
@[simp] theorem sGrow (n : Nat) (h : n < 17592186044416) : specGrow [nilMark, iv n] = some (ow []) := when_pos _ ⟨by omega, by simpa using h⟩
@[simp] theorem sGrow_no (o : Bool) (sz : Nat) (r : List (Cell Unit)) (x : SV Unit) : specGrow [⟨.one, [.c (.sl o sz () r)]⟩, x] = none := rfl
@[simp] theorem callGrow {E : Env} {σ : St Unit} {t : Nat} {l : List Operand} : effCall Try.prog E ΩU σ t 92 l = callO E 92 t (argsOf Try.prog ΩU σ [39, 3] l) := eff_call Try.func92 Try.params92
@[simp] theorem callGrowNil {E : Env} {σ : St Unit} {t : Nat} {l : List Operand} : effCallNil Try.prog E ΩU σ t 92 (.const (.slice none 0 0) :: l) = callNilO E 92 t (argsOf Try.prog ΩU σ [3] l) := eff_callNil Try.func92 Try.params92
abbrev EConcat : Env := ext env0 92 specGrow
theorem flat_take (ls : List (List Int)) (k : Nat) (h : k < ls.length) : (ls.take (k + 1)).flatten = (ls.take k).flatten ++ nthR ls k := by
  rw [nthR_take h, List.flatten_append]; simp
theorem flat_le (ls : List (List Int)) (k : Nat) : (ls.take k).flatten.length ≤ ls.flatten.length := by
  conv => rhs; rw [← List.take_append_drop k ls, List.flatten_append, List.length_append]
  omega

theorem wConcat (l : List (List Int)) (hl : l.length ≤ 1000000) (h : l.flatten.length ≤ 17592186043904) : ∃ c, Try.f75.body = some c ∧ RP (regOf Try.prog EConcat 36 u75) c (argsSt 0 [rows l]) (endsAs Try.prog Try.f75 (ow l.flatten)) := by
  refine ⟨_, rfl, ?_⟩
  generalize hQ : endsAs Try.prog Try.f75 (ow l.flatten) = Q
  simp only [argsSt]
  refine go ?_
  apply rp_loop (fun k σ => ∃ i : Nat, i ≤ l.length ∧ k = l.length - i ∧ ∃ n : Nat, n = (l.take i).flatten.length ∧ σ = [(0, rows l), (3, iv n), (9, rows l), (10, iv l.length), (11, iv i)]) l.length
  · exact ⟨0, by omega, by omega, 0, rfl, rfl⟩
  rintro k σ ⟨i, hi, rfl, n, hn, rfl⟩
  have hle := flat_le l i
  by_cases hil : i < l.length
  · have hf := flat_take l i hil
    have hle2 := flat_le l (i + 1)
    rw [hf, List.length_append] at hle2
    rw [← hn] at hle2
    have hb : n + (nthR l i).length ≤ 17592186043904 := by omega
    have h1 : ¬ ((n : Int) + (nthR l i).length < 0) := by omega
    refine go ?_
    refine nxt (l.length - (i + 1)) (by omega) ⟨i + 1, by omega, rfl, n + (nthR l i).length, ?_, rfl⟩
    rw [hf, List.length_append, hn]
  have hn2 : n = l.flatten.length := by rw [hn, List.take_of_length_le (by omega)]
  clear hn hle
  have hn3 : n ≤ 17592186043904 := by omega
  refine go ?_
  apply rp_loop (fun k σ => ∃ i : Nat, i ≤ l.length ∧ k = l.length - i ∧ ∃ acc : List Int, acc = (l.take i).flatten ∧ σ = [(6, ow acc), (25, rows l), (26, iv l.length), (27, iv i)]) l.length
  · exact ⟨0, by omega, by omega, [], rfl, rfl⟩
  rintro k σ ⟨i, hi, rfl, acc, hacc, rfl⟩
  have hle := flat_le l i
  rw [← hacc] at hle
  by_cases hil : i < l.length
  · have hf := flat_take l i hil
    rw [← hacc] at hf
    have hle2 := flat_le l (i + 1)
    rw [hf, List.length_append] at hle2
    have hb : (acc.length + (nthR l i).length) * 8 ≤ 140737488355328 := by omega
    have hb2 : acc.length + (nthR l i).length ≤ 4611686018427387904 := by omega
    refine go ?_
    refine nxt (l.length - (i + 1)) (by omega) ⟨i + 1, by omega, rfl, acc ++ nthR l i, hf.symm, rfl⟩
  have hn4 : acc = l.flatten := by rw [hacc, List.take_of_length_le (by omega)]
  refine go ?_
  show Q .ret _; refine fin_ret hQ rfl ?_
  rw [hn4]; rfl
def specConcat : Spec := spec1 asRows fun l => when (l.length ≤ 1000000 ∧ l.flatten.length ≤ 17592186043904) (ow l.flatten)
theorem okConcat : SpecOk 75 specConcat := by
  intro us r h
  obtain ⟨x, l, rfl, hl, h⟩ := spec1_eq h
  obtain ⟨⟨h1, h2⟩, rfl⟩ := when_eq h
  rw [asRows_eq hl]
  exact goodBy2 (ext_ok env0_ok okGrow) Try.func75 rfl (Nat.le_of_ble_eq_true rfl) (by decide) (wConcat l h1 h2)
@[simp] theorem sConcat (l : List (List Int)) (h : l.length ≤ 1000000) (h0 : l.flatten.length ≤ 17592186043904) : specConcat [rows l] = some (ow l.flatten) := by
  unfold specConcat; rw [spec1_v _ _ _ _ (asRows_rows l)]; exact when_pos _ ⟨h, h0⟩
@[simp] theorem callConcat {E : Env} {σ : St Unit} {t : Nat} {l : List Operand} : effCall Try.prog E ΩU σ t 75 l = callO E 75 t (argsOf Try.prog ΩU σ [90] l) := eff_call Try.func75 Try.params75
end Go.Proofs.Ytnmocjhpbobahaa.L
