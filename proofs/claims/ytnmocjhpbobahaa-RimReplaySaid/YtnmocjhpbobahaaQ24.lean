/-  -/
import Derived.Test.YtnmocjhpbobahaaQ7
set_option linter.unusedVariables false
set_option linter.unusedSimpArgs false
set_option linter.unnecessarySimpa false
namespace Go.Proofs.Ytnmocjhpbobahaa.L
open Go Go.RowKit
set_option maxRecDepth 100000
variable {E : Env}
attribute [local simp] IL_one
theorem w19 (l m : List Int) (hlen : l.length ≤ 2 ^ 59) : ∃ c, Try.f41.body = some c ∧ RP (regOf Try.prog E 26 t41) c (argsSt 0 [ints l, ints m]) (endsAs Try.prog Try.f41 (bv (decide (l = m)))) := by
  refine ⟨_, rfl, ?_⟩
  generalize hQ : endsAs Try.prog Try.f41 (bv (decide (l = m))) = Q
  simp only [argsSt]
  refine sr rfl (by simp; rfl) ?_
  simp
  apply rp_seq
  refine sr rfl (by simp; rfl) ?_
  simp
  by_cases hlm : l.length = m.length
  case neg =>
    refine condT (by simp [hlm]) ?_
    refine sr rfl (by simp; rfl) ?_
    simp
    apply rp_ret
    simp only [thenR_ret]
    subst hQ; refine ⟨.inr rfl, _, _, rfl, ?_⟩
    have : ¬ l = m := fun h => hlm (by rw [h])
    rw [decide_eq_false this]; rfl
  refine condF (by simp [hlm]) ?_
  apply rp_skip
  simp
  apply rp_seq
  refine sr rfl (by simp; rfl) ?_
  simp
  apply rp_block
  apply rp_loop (fun k σ => ∃ i : Nat, i ≤ l.length ∧ k = l.length - i ∧ σ = [(0, ints l), (1, ints m), (5, iv i)] ∧ ∀ j < i, l.getD j 0 = m.getD j 0) l.length
  · exact ⟨0, by omega, by omega, rfl, by omega⟩
  rintro k σ ⟨i, hi, rfl, rfl, hno⟩
  apply rp_seq
  refine sr rfl (by simp; rfl) ?_
  simp
  by_cases hil : i < l.length
  case pos =>
    have him : i < m.length := by omega
    refine condT (by simp [hil]) ?_
    apply rp_skip
    simp
    apply rp_seq
    apply rp_block
    refine sd rfl (by simp [hil, him]; rfl) ?_
    simp
    by_cases hv : l[i] = m[i]
    case neg =>
      refine condT (by simp [hv]) ?_
      refine sr rfl (by simp; rfl) ?_
      simp
      apply rp_ret
      simp
      subst hQ; refine ⟨.inr rfl, _, _, rfl, ?_⟩
      have : ¬ l = m := fun h => hv (by subst h; rfl)
      rw [decide_eq_false this]; rfl
    refine condF (by simp [hv]) ?_
    apply rp_skip
    simp
    apply rp_reg_seq
    · rfl
    · simp; rfl
    simp
    refine ⟨l.length - (i + 1), by omega, i + 1, by omega, rfl, ?_, ?_⟩
    · rw [IntWalk.i64_in _ (by omega)]; simp
    · intro j hj
      rcases Nat.lt_succ_iff_lt_or_eq.1 hj with h | rfl
      · exact hno j h
      · simpa [hil, him] using hv
  refine condF (by simp [hil]) ?_
  apply rp_exit
  simp
  refine sr rfl (by simp; rfl) ?_
  simp
  apply rp_ret
  subst hQ; refine ⟨.inr rfl, _, _, rfl, ?_⟩
  have : l = m := by
    refine List.ext_getElem hlm fun j h1 h2 => ?_
    have := hno j (by omega)
    simpa [h1, h2] using this
  rw [decide_eq_true this]; rfl
def spec19 : Spec := spec2 asInts asInts fun l m => when (l.length ≤ 2 ^ 59) (bv (decide (l = m)))
theorem ok19 : SpecOk 41 spec19 := by
  intro us r h
  obtain ⟨x, y, l, m, rfl, hl, hm, h⟩ := spec2_eq h
  obtain ⟨hlen, rfl⟩ := when_eq h
  rw [asInts_eq hl, asInts_eq hm]
  exact goodBy env0_ok Try.func41 rfl (Nat.le_of_ble_eq_true rfl) (by decide) (w19 l m hlen)
end Go.Proofs.Ytnmocjhpbobahaa.L
namespace Go.Proofs.Ytnmocjhpbobahaa.L
open Go Go.RowKit
set_option maxRecDepth 100000
variable {E : Env}
attribute [local simp] IL_one
theorem w26 (l : List Int) (v : Int) (hlen : l.length ≤ 2 ^ 59) : ∃ c, Try.f66.body = some c ∧ RP (regOf Try.prog E 18 t66) c (argsSt 0 [ints l, iv v]) (endsAs Try.prog Try.f66 (bv (l.contains v))) := by
  refine ⟨_, rfl, ?_⟩
  generalize hQ : endsAs Try.prog Try.f66 (bv (l.contains v)) = Q
  simp only [argsSt]
  apply rp_seq
  apply rp_reg_seq
  · rfl
  · simp; rfl
  apply rp_seq
  apply rp_seq
  apply rp_reg_seq
  · rfl
  · simp; rfl
  simp
  apply rp_block
  apply rp_loop (fun k σ => ∃ i : Nat, i ≤ l.length ∧ k = l.length - i ∧ σ = [(0, ints l), (1, iv v), (5, iv i)] ∧ ∀ j < i, l.getD j 0 ≠ v) l.length
  · exact ⟨0, by omega, by omega, rfl, by omega⟩
  rintro k σ ⟨i, hi, rfl, rfl, hno⟩
  apply rp_seq
  apply rp_seq
  apply rp_reg_seq
  · rfl
  · simp; rfl
  simp
  apply rp_cond
  · simp; rfl
  by_cases hil : i < l.length
  · simp only [hil, decide_true, if_true]
    apply rp_skip
    simp
    apply rp_seq
    apply rp_block
    apply rp_seq
    apply rp_reg_seq
    · rfl
    · simp [hil]; rfl
    simp
    apply rp_cond
    · simp; rfl
    by_cases hv : l[i] = v
    · have hv' : l.getD i 0 = v := by simp [hil, hv]
      simp [hil, hv]
      apply rp_seq
      apply rp_reg_seq
      · rfl
      · simp; rfl
      simp
      apply rp_ret
      subst hQ; refine ⟨.inr rfl, _, _, rfl, ?_⟩
      have : l.contains v = true := by rw [List.contains_iff_mem]; exact hv ▸ List.getElem_mem hil
      rw [this]; rfl
    · simp [hil, hv]
      apply rp_skip
      simp
      apply rp_reg_seq
      · rfl
      · simp; rfl
      simp
      refine ⟨l.length - (i + 1), by omega, i + 1, by omega, rfl, ?_, ?_⟩
      · rw [IntWalk.i64_in _ (by omega)]; simp
      · intro j hj
        rcases Nat.lt_succ_iff_lt_or_eq.1 hj with h | rfl
        · exact hno j h
        · simpa [hil] using hv
  · simp [hil]
    apply rp_exit
    simp
    apply rp_seq
    apply rp_reg_seq
    · rfl
    · simp; rfl
    simp
    apply rp_ret
    subst hQ; refine ⟨.inr rfl, _, _, rfl, ?_⟩
    have : l.contains v = false := by
      rw [← Bool.not_eq_true, List.contains_iff_mem]
      intro hm
      obtain ⟨j, hj, he⟩ := List.getElem_of_mem hm
      exact hno j (by omega) (by simp [hj, he])
    rw [this]; rfl
def spec26 : Spec := spec2 asInts asInt fun l v => when (l.length ≤ 2 ^ 59) (bv (l.contains v))
theorem ok26 : SpecOk 66 spec26 := by
  intro us r h
  obtain ⟨x, y, l, v, rfl, hl, hv, h⟩ := spec2_eq h
  obtain ⟨hlen, rfl⟩ := when_eq h
  rw [asInts_eq hl, asInt_eq hv]
  exact goodBy env0_ok Try.func66 rfl (Nat.le_of_ble_eq_true rfl) (by decide) (w26 l v hlen)
end Go.Proofs.Ytnmocjhpbobahaa.L
namespace Go.Proofs.Ytnmocjhpbobahaa.L
open Go Go.RowKit
set_option maxRecDepth 100000
variable {E : Env}
attribute [local simp] IL_one
/-- Where x goes, from place t downwards. -/
def posU (x : Int) (a : List Int) : Nat → Nat
  | 0 => 0
  | t + 1 => if a.getD t 0 > x then posU x a t else t + 1
def insR (x : Int) (a : List Int) : List Int := a.take (posU x a a.length) ++ x :: a.drop (posU x a a.length)
def sortR (l : List Int) : List Int := l.foldl (fun a x => insR x a) []
theorem ins_fact (a : List Int) (x : Int) (t : Nat) (h : t ≤ a.length) : (setRun (a ++ [0]) (t + 1) (List.take (a.length - t) (List.take (a.length + 1 - t) (List.drop t (a ++ [0]))))).set t x = a.take t ++ x :: a.drop t := by
  apply List.ext_getElem?
  intro j
  by_cases hj : j = t
  · subst hj
    rw [List.getElem?_set_self (by simp; omega)]
    rw [List.getElem?_append_right (by simp; omega)]
    simp [Nat.min_eq_left h]
  · rw [List.getElem?_set_ne (by omega), setRun_get _ _ _ _ (by simp; omega)]
    by_cases hlt : j < t
    · rw [if_neg (by omega), List.getElem?_append_left (by omega), List.getElem?_append_left (by simp; omega)]
      simp [hlt]
    · obtain ⟨d, rfl⟩ : ∃ d, j = t + 1 + d := ⟨j - (t + 1), by omega⟩
      rw [List.getElem?_append_right (l₁ := List.take t a) (by simp; omega)]
      simp only [List.length_take, Nat.min_eq_left h]
      rw [show t + 1 + d - t = d + 1 by omega, List.getElem?_cons_succ, List.getElem?_drop]
      by_cases hd : d < a.length - t
      · rw [if_pos (by simp; omega), show t + 1 + d - (t + 1) = d by omega]
        rw [List.getElem?_take_of_lt hd, List.getElem?_take_of_lt (by omega), List.getElem?_drop, List.getElem?_append_left (by omega)]
      · rw [if_neg (by simp; omega), List.getElem?_eq_none (by simp; omega), List.getElem?_eq_none (by omega)]
theorem w55 (l : List Int) (hlen : l.length ≤ 17592186043904) : ∃ c, Try.f67.body = some c ∧ RP (regOf Try.prog E 50 t67) c (argsSt 0 [ints l]) (endsAs Try.prog Try.f67 (ow (sortR l))) := by
  refine ⟨_, rfl, ?_⟩
  generalize hQ : endsAs Try.prog Try.f67 (ow (sortR l)) = Q
  simp only [argsSt]
  refine sr rfl (by simp; rfl) ?_
  simp
  refine sr rfl (by simp; rfl) ?_
  simp
  apply rp_seq
  refine sr rfl (by simp; rfl) ?_
  simp
  apply rp_block
  apply rp_loop (fun k σ => ∃ (i : Nat) (a : List Int), i ≤ l.length ∧ k = l.length - i ∧ a = sortR (l.take i) ∧ a.length = i ∧ σ = [(0, ints l), (2, SV.dead), (3, ow a), (4, iv i)]) l.length
  · exact ⟨0, [], by omega, by omega, by simp [sortR], rfl, rfl⟩
  rintro k σ ⟨i, a, hi, rfl, ha, hal, rfl⟩
  apply rp_seq
  refine sr rfl (by simp; rfl) ?_
  simp
  by_cases hil : i < l.length
  case neg =>
    refine condF (by simp [hil]) ?_
    apply rp_exit
    simp
    refine sr rfl (by simp; rfl) ?_
    simp
    apply rp_ret
    subst hQ; refine ⟨.inr rfl, _, _, rfl, ?_⟩
    have : i = l.length := by omega
    rw [ha, this, List.take_length]; rfl
  refine condT (by simp [hil]) ?_
  apply rp_skip
  simp
  apply rp_seq
  apply rp_block
  refine sr rfl (by simp; rfl) ?_
  simp
  apply rp_seq
  apply rp_block
  refine RP.mono (Q := fun e σ => e = .exit 2 ∧ ∃ t : Nat, t ≤ a.length ∧ t = posU (l.getD i 0) a a.length ∧ σ = [(0, ints l), (2, SV.dead), (3, ow a), (4, iv i), (5, iv t), (28, bv false)]) ?_ ?_
  case refine_2 =>
    rintro e σ ⟨rfl, t, hta, htp, rfl⟩
    have hsm : a.length < 4611686018427387904 ∧ (a.length + 1) * 8 ≤ 140737488355328 := by omega
    have hwt : IntKind.i64.wrap ((t : Int) + 1) = (t : Int) + 1 := IntWalk.i64_in _ (by omega)
    have hwi : IntKind.i64.wrap ((i : Int) + 1) = (i : Int) + 1 := IntWalk.i64_in _ (by omega)
    have ht2 : t < a.length + 1 := by omega
    have ht3 : t ≤ a.length + 1 := by omega
    simp
    refine sr rfl (by simp [hsm]; rfl) ?_
    simp
    refine sd rfl (by simp [hwt, hta, ht2, ht3, show t + 1 + (a.length - t) ≤ a.length + 1 by omega, show t + (a.length + 1 - t) ≤ a.length + 1 by omega]; rfl) ?_
    simp
    apply rp_reg_seq
    · rfl
    · simp [hil, ht2]; rfl
    simp
    have hx : l[i] = l.getD i 0 := by simp [hil]
    have hins := ins_fact a l[i] t hta
    rw [hins]
    have hb : List.take t a ++ l[i] :: List.drop t a = insR (l.getD i 0) a := by unfold insR; rw [← htp, hx]
    rw [hb]
    clear hins hb
    have hlen2 : (insR (l.getD i 0) a).length = i + 1 := by unfold insR; rw [← htp]; simp; omega
    have hfold : insR (l.getD i 0) a = sortR (l.take (i + 1)) := by
      rw [ha]
      unfold sortR
      rw [List.take_add_one, List.foldl_append]
      simp [hil]
    generalize insR (l.getD i 0) a = b at *
    apply rp_reg_seq
    · rfl
    · simp [hwi]; rfl
    simp
    exact ⟨l.length - (i + 1), by omega, i + 1, by omega, rfl, by rw [← hfold]; exact hlen2, by rw [← hfold]; exact ⟨rfl, by simp⟩⟩
  apply rp_loop (fun t σ => t ≤ a.length ∧ posU (l.getD i 0) a t = posU (l.getD i 0) a a.length ∧ σ = [(0, ints l), (2, SV.dead), (3, ow a), (4, iv i), (5, iv t)]) a.length
  · exact ⟨by omega, rfl, rfl⟩
  rintro t σ ⟨hta, hpos, rfl⟩
  apply rp_seq
  by_cases hgo : ∃ u, t = u + 1 ∧ a.getD u 0 > l.getD i 0
  case neg =>
    have hpt : posU (l.getD i 0) a t = t := by
      cases t with
      | zero => rfl
      | succ u => simp only [posU]; rw [if_neg]; exact fun h => hgo ⟨u, rfl, h⟩
    cases t with
    | zero =>
      refine sd rfl (by simp; rfl) ?_
      simp
      refine condF (by simp) ?_
      apply rp_exit
      exact ⟨rfl, _, hta, hpt.symm.trans hpos, rfl⟩
    | succ u =>
      have hua : u < a.length := by omega
      have hw : IntKind.i64.wrap (u : Int) = (u : Int) := IntWalk.i64_in _ (by omega)
      have hgt' : ¬ l[i] < a[u] := by
        intro h
        exact hgo ⟨u, rfl, by simpa [hil, hua] using h⟩
      refine sd rfl (by simp [hw, hua, hil, hgt']; rfl) ?_
      simp
      refine condF (by simp) ?_
      apply rp_exit
      exact ⟨rfl, _, hta, hpt.symm.trans hpos, rfl⟩
  obtain ⟨u, rfl, hgt⟩ := hgo
  have hua : u < a.length := by omega
  have hw : IntKind.i64.wrap (u : Int) = (u : Int) := IntWalk.i64_in _ (by omega)
  have hgt' : l[i] < a[u] := by simpa [hil, hua] using hgt
  refine sd rfl (by simp [hw, hua, hil, hgt']; rfl) ?_
  simp
  refine condT (by simp) ?_
  apply rp_skip
  simp
  apply rp_block
  apply rp_reg_seq
  · rfl
  · simp [hw]; rfl
  simp
  have e : posU (l.getD i 0) a u = posU (l.getD i 0) a a.length := by
    rw [← hpos]
    simp only [posU]
    rw [if_pos hgt]
  exact ⟨u, by omega, by omega, by simpa using e, rfl⟩
def spec55 : Spec := spec1 asInts fun l => when (l.length ≤ 17592186043904) (ow (sortR l))
theorem ok55 : SpecOk 67 spec55 := by
  intro us r h
  obtain ⟨x, l, rfl, hl, h⟩ := spec1_eq h
  obtain ⟨hlen, rfl⟩ := when_eq h
  rw [asInts_eq hl]
  exact goodBy env0_ok Try.func67 rfl (Nat.le_of_ble_eq_true rfl) (by decide) (w55 l hlen)
end Go.Proofs.Ytnmocjhpbobahaa.L
