/- T25: carcanetref05.Apart. -/
import Derived.Test.YtngglgkemonibaaQ12
import Derived.Test.YtngglgkemonibaaQ38
set_option linter.unusedVariables false
set_option linter.unusedSimpArgs false
set_option linter.unnecessarySimpa false
namespace Go.Proofs.Ytngglgkemonibaa.L
open Go Go.RowKit
set_option maxRecDepth 100000
set_option maxHeartbeats 4000000
/-- How often a number stands in rows. -/
def cntR (l : List (List Int)) (v : Int) : Nat := (l.map (List.count v)).sum
def ApartL (l : List (List Int)) : Prop := ∀ i, i < l.length → ∀ k, 1 ≤ k → k + 1 < (nthR l i).length → cntR l (nth (nthR l i) k) = 1
theorem cntR_take {l : List (List Int)} {v : Int} {a : Nat} (h : a < l.length) : cntR (l.take (a + 1)) v = cntR (l.take a) v + (nthR l a).count v := by
  rw [nthR_take h]; simp [cntR]
theorem cntR_le {l : List (List Int)} {v : Int} (hr : ∀ i, i < l.length → (nthR l i).length ≤ 1000) : ∀ a, a ≤ l.length → cntR (l.take a) v ≤ a * 1000
  | 0, _ => by simp [cntR]
  | a + 1, h => by
    have h1 := cntR_le (v := v) hr a (by omega)
    have h2 := hr a (by omega)
    have h3 := List.count_le_length (a := v) (l := nthR l a)
    rw [cntR_take (by omega)]
    omega
theorem count_take {r : List Int} {v : Int} {b : Nat} (h : b < r.length) : (r.take (b + 1)).count v = (r.take b).count v + if nth r b = v then 1 else 0 := by
  rw [nth_take h, List.count_append]; simp [List.count_cons]
theorem w25 (l : List (List Int)) (hl : l.length ≤ 1000) (hr : ∀ i, i < l.length → (nthR l i).length ≤ 1000) (b : Bool) (hb : b = true ↔ ApartL l) : ∃ c, Try.f25.body = some c ∧ RP (regOf Try.prog env0 58 u25) c (argsSt 0 [rows l]) (endsAs Try.prog Try.f25 (bv b)) := by
  refine ⟨_, rfl, ?_⟩
  generalize hQ : endsAs Try.prog Try.f25 (bv b) = Q
  simp only [argsSt]
  repeat (first | (show RP _ (.seq (.region _ _ false) _) _ _; refine gs ?_) | (show RP _ (.seq (.region _ _ true) _) _ _; first | refine gD ?_ | refine gW ?_ | refine gm ?_) | (show RP _ (.cond _ _ _) _ _; first | refine gT ?_ | refine gF ?_) | apply gskip | apply rp_ret | apply rp_exit | apply rp_skip | apply rp_block | (show RP _ (.region _ _ false) _ _; refine ge ?_) | (show RP _ (.region _ _ true) _ _; first | refine gG ?_ | refine gV ?_ | refine gn ?_) | apply rp_seq)
  apply rp_loop (fun k σ => ∃ i : Nat, i ≤ l.length ∧ k = l.length - i ∧ σ = [(0, rows l), (3, iv i)] ∧ ∀ j, j < i → ∀ k, 1 ≤ k → k + 1 < (nthR l j).length → cntR l (nth (nthR l j) k) = 1) l.length
  · exact ⟨0, by omega, by omega, rfl, by omega⟩
  rintro k σ ⟨i, hi, rfl, rfl, hno⟩
  by_cases hil : i < l.length
  case neg =>
    have hans : b = true := hb.2 fun j hj => hno j (by omega)
    rw [hans] at hQ
    repeat (first | (show RP _ (.seq (.region _ _ false) _) _ _; refine gs ?_) | (show RP _ (.seq (.region _ _ true) _) _ _; first | refine gD ?_ | refine gW ?_ | refine gm ?_) | (show RP _ (.cond _ _ _) _ _; first | refine gT ?_ | refine gF ?_) | apply gskip | apply rp_ret | apply rp_exit | apply rp_skip | apply rp_block | (show RP _ (.region _ _ false) _ _; refine ge ?_) | (show RP _ (.region _ _ true) _ _; first | refine gG ?_ | refine gV ?_ | refine gn ?_) | apply rp_seq)
    show Q .ret _; refine fin_ret hQ rfl ?_
    rfl
  have hri := hr i hil
  repeat (first | (show RP _ (.seq (.region _ _ false) _) _ _; refine gs ?_) | (show RP _ (.seq (.region _ _ true) _) _ _; first | refine gD ?_ | refine gW ?_ | refine gm ?_) | (show RP _ (.cond _ _ _) _ _; first | refine gT ?_ | refine gF ?_) | apply gskip | apply rp_ret | apply rp_exit | apply rp_skip | apply rp_block | (show RP _ (.region _ _ false) _ _; refine ge ?_) | (show RP _ (.region _ _ true) _ _; first | refine gG ?_ | refine gV ?_ | refine gn ?_) | apply rp_seq)
  refine RP.mono (Q := fun e σ => (e = .ret ∧ b = false ∧ σ = [(2, bv false)]) ∨ (e = .exit 2 ∧ (∃ w w' : SV Unit, σ = [(0, rows l), (3, iv i), (4, w), (21, w')]) ∧ ∀ k, 1 ≤ k → k + 1 < (nthR l i).length → cntR l (nth (nthR l i) k) = 1)) ?_ ?_
  case refine_2 =>
    rintro e σ (⟨rfl, hb', rfl⟩ | ⟨rfl, ⟨w, w', rfl⟩, hk⟩)
    · rw [hb'] at hQ
      show Q .ret _; refine fin_ret hQ rfl ?_
      rfl
    simp only [inBlock_exit, if_true, thenR_normal]
    repeat (first | (show RP _ (.seq (.region _ _ false) _) _ _; refine gs ?_) | (show RP _ (.seq (.region _ _ true) _) _ _; first | refine gD ?_ | refine gW ?_ | refine gm ?_) | (show RP _ (.cond _ _ _) _ _; first | refine gT ?_ | refine gF ?_) | apply gskip | apply rp_ret | apply rp_exit | apply rp_skip | apply rp_block | (show RP _ (.region _ _ false) _ _; refine ge ?_) | (show RP _ (.region _ _ true) _ _; first | refine gG ?_ | refine gV ?_ | refine gn ?_) | apply rp_seq)
    refine nxt (l.length - (i + 1)) (by omega) ⟨i + 1, by omega, by omega, rfl, fun j hj => ?_⟩
    rcases Nat.lt_succ_iff_lt_or_eq.1 hj with h | rfl
    · exact hno j h
    · exact hk
  apply rp_loop (fun m σ => ∃ k : Nat, 1 ≤ k ∧ m = (nthR l i).length + 1 - k ∧ k ≤ (nthR l i).length + 1 ∧ σ = [(0, rows l), (3, iv i), (4, iv k)] ∧ ∀ j, 1 ≤ j → j < k → j + 1 < (nthR l i).length → cntR l (nth (nthR l i) j) = 1) (nthR l i).length
  · exact ⟨1, by omega, by omega, by omega, rfl, by omega⟩
  rintro m σ ⟨k, hk1, rfl, hk2, rfl, hnk⟩
  by_cases hkl : k + 1 < (nthR l i).length
  case neg =>
    repeat (first | (show RP _ (.seq (.region _ _ false) _) _ _; refine gs ?_) | (show RP _ (.seq (.region _ _ true) _) _ _; first | refine gD ?_ | refine gW ?_ | refine gm ?_) | (show RP _ (.cond _ _ _) _ _; first | refine gT ?_ | refine gF ?_) | apply gskip | apply rp_ret | apply rp_exit | apply rp_skip | apply rp_block | (show RP _ (.region _ _ false) _ _; refine ge ?_) | (show RP _ (.region _ _ true) _ _; first | refine gG ?_ | refine gV ?_ | refine gn ?_) | apply rp_seq)
    exact .inr ⟨rfl, ⟨_, _, rfl⟩, fun j h1 h2 => hnk j h1 (by omega) h2⟩
  repeat (first | (show RP _ (.seq (.region _ _ false) _) _ _; refine gs ?_) | (show RP _ (.seq (.region _ _ true) _) _ _; first | refine gD ?_ | refine gW ?_ | refine gm ?_) | (show RP _ (.cond _ _ _) _ _; first | refine gT ?_ | refine gF ?_) | apply gskip | apply rp_ret | apply rp_exit | apply rp_skip | apply rp_block | (show RP _ (.region _ _ false) _ _; refine ge ?_) | (show RP _ (.region _ _ true) _ _; first | refine gG ?_ | refine gV ?_ | refine gn ?_) | apply rp_seq)
  have hkl' : k < (nthR l i).length := by omega
  refine RP.mono (Q := fun e σ => e = .exit 4 ∧ ∃ w w' : SV Unit, σ = [(0, rows l), (3, iv i), (4, iv k), (5, iv (cntR l (nth (nthR l i) k))), (6, w), (27, w')]) ?_ ?_
  · apply rp_loop (fun m σ => ∃ a : Nat, a ≤ l.length ∧ m = l.length - a ∧ σ = [(0, rows l), (3, iv i), (4, iv k), (5, iv (cntR (l.take a) (nth (nthR l i) k))), (6, iv a)]) l.length
    · exact ⟨0, by omega, by omega, rfl⟩
    rintro m σ ⟨a, ha, rfl, rfl⟩
    have hca := cntR_le (v := nth (nthR l i) k) hr a ha
    by_cases hal : a < l.length
    case neg =>
      repeat (first | (show RP _ (.seq (.region _ _ false) _) _ _; refine gs ?_) | (show RP _ (.seq (.region _ _ true) _) _ _; first | refine gD ?_ | refine gW ?_ | refine gm ?_) | (show RP _ (.cond _ _ _) _ _; first | refine gT ?_ | refine gF ?_) | apply gskip | apply rp_ret | apply rp_exit | apply rp_skip | apply rp_block | (show RP _ (.region _ _ false) _ _; refine ge ?_) | (show RP _ (.region _ _ true) _ _; first | refine gG ?_ | refine gV ?_ | refine gn ?_) | apply rp_seq)
      rw [List.take_of_length_le (by omega)]
      exact ⟨rfl, _, _, rfl⟩
    have hra := hr a hal
    have hct := cntR_take (v := nth (nthR l i) k) hal
    generalize hc0 : cntR (l.take a) (nth (nthR l i) k) = c0 at *
    repeat (first | (show RP _ (.seq (.region _ _ false) _) _ _; refine gs ?_) | (show RP _ (.seq (.region _ _ true) _) _ _; first | refine gD ?_ | refine gW ?_ | refine gm ?_) | (show RP _ (.cond _ _ _) _ _; first | refine gT ?_ | refine gF ?_) | apply gskip | apply rp_ret | apply rp_exit | apply rp_skip | apply rp_block | (show RP _ (.region _ _ false) _ _; refine ge ?_) | (show RP _ (.region _ _ true) _ _; first | refine gG ?_ | refine gV ?_ | refine gn ?_) | apply rp_seq)
    refine RP.mono (Q := fun e σ => e = .exit 6 ∧ ∃ w w' : SV Unit, σ = [(0, rows l), (3, iv i), (4, iv k), (5, iv (c0 + (nthR l a).count (nth (nthR l i) k) : Nat)), (6, iv a), (7, w), (36, w')]) ?_ ?_
    · apply rp_loop (fun m σ => ∃ b : Nat, b ≤ (nthR l a).length ∧ m = (nthR l a).length - b ∧ σ = [(0, rows l), (3, iv i), (4, iv k), (5, iv (c0 + ((nthR l a).take b).count (nth (nthR l i) k) : Nat)), (6, iv a), (7, iv b)]) (nthR l a).length
      · exact ⟨0, by omega, by omega, by simp⟩
      rintro m σ ⟨b, hb2, rfl, rfl⟩
      have hcb := List.count_le_length (a := nth (nthR l i) k) (l := (nthR l a).take b)
      rw [List.length_take, Nat.min_eq_left hb2] at hcb
      by_cases hbl : b < (nthR l a).length
      case neg =>
        repeat (first | (show RP _ (.seq (.region _ _ false) _) _ _; refine gs ?_) | (show RP _ (.seq (.region _ _ true) _) _ _; first | refine gD ?_ | refine gW ?_ | refine gm ?_) | (show RP _ (.cond _ _ _) _ _; first | refine gT ?_ | refine gF ?_) | apply gskip | apply rp_ret | apply rp_exit | apply rp_skip | apply rp_block | (show RP _ (.region _ _ false) _ _; refine ge ?_) | (show RP _ (.region _ _ true) _ _; first | refine gG ?_ | refine gV ?_ | refine gn ?_) | apply rp_seq)
        rw [List.take_of_length_le (by omega)]
        exact ⟨rfl, iv b, bv false, by simp⟩
      have hct2 := count_take (v := nth (nthR l i) k) hbl
      generalize hc1 : ((nthR l a).take b).count (nth (nthR l i) k) = c1 at *
      by_cases he : nth (nthR l a) b = nth (nthR l i) k
      · rw [if_pos he] at hct2
        repeat (first | (show RP _ (.seq (.region _ _ false) _) _ _; refine gs ?_) | (show RP _ (.seq (.region _ _ true) _) _ _; first | refine gD ?_ | refine gW ?_ | refine gm ?_) | (show RP _ (.cond _ _ _) _ _; first | refine gT ?_ | refine gF ?_) | apply gskip | apply rp_ret | apply rp_exit | apply rp_skip | apply rp_block | (show RP _ (.region _ _ false) _ _; refine ge ?_) | (show RP _ (.region _ _ true) _ _; first | refine gG ?_ | refine gV ?_ | refine gn ?_) | apply rp_seq)
        exact nxt ((nthR l a).length - (b + 1)) (by omega) ⟨b + 1, by omega, by omega, by rw [hct2]; simp [Int.add_assoc]⟩
      · rw [if_neg he] at hct2
        repeat (first | (show RP _ (.seq (.region _ _ false) _) _ _; refine gs ?_) | (show RP _ (.seq (.region _ _ true) _) _ _; first | refine gD ?_ | refine gW ?_ | refine gm ?_) | (show RP _ (.cond _ _ _) _ _; first | refine gT ?_ | refine gF ?_) | apply gskip | apply rp_ret | apply rp_exit | apply rp_skip | apply rp_block | (show RP _ (.region _ _ false) _ _; refine ge ?_) | (show RP _ (.region _ _ true) _ _; first | refine gG ?_ | refine gV ?_ | refine gn ?_) | apply rp_seq)
        exact nxt ((nthR l a).length - (b + 1)) (by omega) ⟨b + 1, by omega, by omega, by rw [hct2]; simp⟩
    rintro e σ ⟨rfl, w, w', rfl⟩
    simp only [inBlock_exit, if_true, thenR_normal]
    repeat (first | (show RP _ (.seq (.region _ _ false) _) _ _; refine gs ?_) | (show RP _ (.seq (.region _ _ true) _) _ _; first | refine gD ?_ | refine gW ?_ | refine gm ?_) | (show RP _ (.cond _ _ _) _ _; first | refine gT ?_ | refine gF ?_) | apply gskip | apply rp_ret | apply rp_exit | apply rp_skip | apply rp_block | (show RP _ (.region _ _ false) _ _; refine ge ?_) | (show RP _ (.region _ _ true) _ _; first | refine gG ?_ | refine gV ?_ | refine gn ?_) | apply rp_seq)
    exact nxt (l.length - (a + 1)) (by omega) ⟨a + 1, by omega, by omega, by rw [hct]; simp⟩
  rintro e σ ⟨rfl, w, w', rfl⟩
  simp only [inBlock_exit, if_true, thenR_normal]
  by_cases h1 : cntR l (nth (nthR l i) k) = 1
  · rw [h1]
    repeat (first | (show RP _ (.seq (.region _ _ false) _) _ _; refine gs ?_) | (show RP _ (.seq (.region _ _ true) _) _ _; first | refine gD ?_ | refine gW ?_ | refine gm ?_) | (show RP _ (.cond _ _ _) _ _; first | refine gT ?_ | refine gF ?_) | apply gskip | apply rp_ret | apply rp_exit | apply rp_skip | apply rp_block | (show RP _ (.region _ _ false) _ _; refine ge ?_) | (show RP _ (.region _ _ true) _ _; first | refine gG ?_ | refine gV ?_ | refine gn ?_) | apply rp_seq)
    refine nxt ((nthR l i).length + 1 - (k + 1)) (by omega) ⟨k + 1, by omega, by omega, by omega, rfl, fun j hj1 hj2 hj3 => ?_⟩
    rcases Nat.lt_succ_iff_lt_or_eq.1 hj2 with h | rfl
    · exact hnk j hj1 h hj3
    · exact h1
  · have hans : b = false := by rw [Bool.eq_false_iff]; exact fun h => h1 (hb.1 h i hil k hk1 hkl)
    generalize cntR l (nth (nthR l i) k) = c at *
    repeat (first | (show RP _ (.seq (.region _ _ false) _) _ _; refine gs ?_) | (show RP _ (.seq (.region _ _ true) _) _ _; first | refine gD ?_ | refine gW ?_ | refine gm ?_) | (show RP _ (.cond _ _ _) _ _; first | refine gT ?_ | refine gF ?_) | apply gskip | apply rp_ret | apply rp_exit | apply rp_skip | apply rp_block | (show RP _ (.region _ _ false) _ _; refine ge ?_) | (show RP _ (.region _ _ true) _ _; first | refine gG ?_ | refine gV ?_ | refine gn ?_) | apply rp_seq)
    exact .inl ⟨rfl, hans, rfl⟩
open Classical in
noncomputable def apartB (l : List (List Int)) : Bool := decide (ApartL l)
theorem apartB_iff (l : List (List Int)) : apartB l = true ↔ ApartL l := by simp [apartB]
noncomputable def spec25 : Spec := spec1 asRows fun l => when (l.length ≤ 1000 ∧ ∀ r ∈ l, r.length ≤ 1000) (bv (apartB l))
theorem ok25 : SpecOk 25 spec25 := by
  intro us r h
  obtain ⟨x, l, rfl, hl, h⟩ := spec1_eq h
  obtain ⟨hlen, rfl⟩ := when_eq h
  rw [asRows_eq hl]
  exact goodBy2 env0_ok Try.func25 rfl (Nat.le_of_ble_eq_true rfl) (by decide) (w25 l hlen.1 (fun i hi => hlen.2 _ (by rw [nthR_eq hi]; exact List.getElem_mem hi)) _ (apartB_iff l))
@[simp] theorem s25 (l : List (List Int)) (h : l.length ≤ 1000 ∧ ∀ r ∈ l, r.length ≤ 1000) : spec25 [rows l] = some (bv (apartB l)) := by
  unfold spec25; rw [spec1_v _ _ _ _ (asRows_rows l)]; exact when_pos _ h
@[simp] theorem call25 {E : Env} {σ : St Unit} {t : Nat} {l : List Operand} : effCall Try.prog E ΩU σ t 25 l = callO E 25 t (argsOf Try.prog ΩU σ [36] l) := eff_call Try.func25 Try.params25
end Go.Proofs.Ytngglgkemonibaa.L
