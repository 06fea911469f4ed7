/- The reference's Same, Less and Unlike, as plain laws. -/
import Derived.Test.YtngglgkemonibaaUnlike
import Derived.Test.YtngglgkemonibaaF19
import Derived.Test.YtngglgkemonibaaF39
import Derived.Test.YtngglgkemonibaaF35
namespace Go.Proofs.Ytngglgkemonibaa.P
open Go.RowKit Go.Proofs.YtngglgkemonibaaW.PrintWords Go.Proofs.YtngglgkemonibaaW.PrintMore Go.Proofs.YtngglgkemonibaaW.PrintLast
set_option linter.unusedVariables false
set_option linter.unusedSimpArgs false

theorem wrap_id {x : Int} (h : -9223372036854775808 ≤ x ∧ x ≤ 9223372036854775807) : wrap64 x = x := by
  rw [← i64_w]; exact IntWalk.i64_in x h
theorem wrap_succ (n : Nat) (h : n < 4611686018427387904) : wrap64 ((n : Int) + 1) = ((n + 1 : Nat) : Int) := by
  rw [wrap_id (by omega)]; omega
theorem rd_nat (l : List Int) (n : Nat) : rd l (n : Int) = l.getD n 0 := by unfold rd; rw [Int.toNat_natCast]
theorem getD_drop0 (l : List Int) (n : Nat) (h : n < l.length) : l.drop n = l.getD n 0 :: l.drop (n + 1) := by
  rw [List.getD_eq_getElem?_getD, List.getElem?_eq_getElem h]; exact List.drop_eq_getElem_cons h

theorem same_refl (l : List Int) (hl : l.length < 4611686018427387904) : ∀ (d n k : Nat), d + n = l.length → d < k → carcanetref03_Same.l0 k l l (n : Int) = some true := by
  intro d
  induction d with
  | zero =>
    intro n k h hk
    obtain ⟨k, rfl⟩ : ∃ m, k = m + 1 := ⟨k - 1, by omega⟩
    rw [carcanetref03_Same.l0, if_neg (by omega)]
  | succ d ih =>
    intro n k h hk
    obtain ⟨k, rfl⟩ : ∃ m, k = m + 1 := ⟨k - 1, by omega⟩
    rw [carcanetref03_Same.l0, if_pos (by omega), if_pos (by omega), if_pos (by omega), if_pos rfl, wrap_succ n (by omega)]
    exact ih (n + 1) k (by omega) (by omega)
theorem same_f (l : List Int) (hl : l.length < 4611686018427387904) (k : Nat) (hk : l.length < k) : carcanetref03_Same.f k l l = some true := by
  unfold carcanetref03_Same.f
  rw [if_pos rfl]
  exact same_refl l hl l.length 0 k (by omega) hk

/-- which of two rows stands ahead -/
def lexLt : List Int → List Int → Bool
  | [], [] => false
  | [], _ :: _ => true
  | _ :: _, [] => false
  | x :: xs, y :: ys => if x = y then lexLt xs ys else decide (x < y)
theorem less_l (a b : List Int) (ha : a.length < 4611686018427387904) : ∀ (d n k : Nat), d + n = a.length → n ≤ b.length → 2 * d + 1 < k → carcanetref03_Less.l0 k a b (n : Int) = some (lexLt (a.drop n) (b.drop n)) := by
  intro d
  induction d with
  | zero =>
    intro n k h hn hk
    obtain ⟨k, rfl⟩ : ∃ m, k = m + 2 := ⟨k - 2, by omega⟩
    rw [carcanetref03_Less.l0, if_neg (by omega), carcanetref03_Less.j1, if_neg (by decide)]
    congr 1
    rw [List.drop_of_length_le (show a.length ≤ n by omega)]
    by_cases hb : n < b.length
    · rw [getD_drop0 b n hb, lexLt]; exact decide_eq_true (by omega)
    · rw [List.drop_of_length_le (show b.length ≤ n by omega), lexLt]; exact decide_eq_false (by omega)
  | succ d ih =>
    intro n k h hn hk
    obtain ⟨k, rfl⟩ : ∃ m, k = m + 2 := ⟨k - 2, by omega⟩
    rw [carcanetref03_Less.l0, if_pos (by omega)]
    by_cases hb : n < b.length
    · rw [decide_eq_true (by omega), carcanetref03_Less.j1, if_pos rfl, if_pos (by omega), if_pos (by omega), if_pos (by omega), rd_nat, rd_nat,
        getD_drop0 a n (by omega), getD_drop0 b n hb, lexLt]
      by_cases he : a.getD n 0 = b.getD n 0
      · rw [if_pos he, if_pos he, wrap_succ n (by omega)]
        exact ih (n + 1) k (by omega) (by omega) (by omega)
      · rw [if_neg he, if_neg he]
    · rw [decide_eq_false (by omega), carcanetref03_Less.j1, if_neg (by decide)]
      rw [getD_drop0 a n (by omega), List.drop_of_length_le (show b.length ≤ n by omega), lexLt]
      congr 1
      exact decide_eq_false (by omega)
theorem less_f (a b : List Int) (ha : a.length < 4611686018427387904) (k : Nat) (hk : 2 * a.length + 1 < k) : carcanetref03_Less.f k a b = some (lexLt a b) := by
  have := less_l a b ha a.length 0 k (by omega) (by omega) hk
  simpa [carcanetref03_Less.f] using this
theorem lexLt_irrefl : ∀ l : List Int, lexLt l l = false
  | [] => rfl
  | x :: l => by rw [lexLt, if_pos rfl]; exact lexLt_irrefl l
theorem lexLt_head {x y : Int} (h : x < y) (xs ys : List Int) : lexLt (x :: xs) (y :: ys) = true := by
  rw [lexLt, if_neg (by omega)]; exact decide_eq_true h
theorem lexLt_head' {x y : Int} (h : y < x) (xs ys : List Int) : lexLt (x :: xs) (y :: ys) = false := by
  rw [lexLt, if_neg (by omega)]; exact decide_eq_false (by omega)

theorem take_nodup_succ (l : List Int) (n : Nat) (h : n < l.length) : (l.take (n + 1)).Nodup ↔ (l.take n).Nodup ∧ l.getD n 0 ∉ l.take n := by
  rw [List.take_succ_eq_append_getElem h, List.nodup_append, List.getD_eq_getElem?_getD, List.getElem?_eq_getElem h]
  simp only [List.nodup_cons, List.not_mem_nil, not_false_eq_true, List.nodup_nil, true_and, List.mem_singleton, Option.getD_some, and_self]
  constructor
  · rintro ⟨h1, h2⟩
    exact ⟨h1, fun hm => h2 _ hm _ rfl rfl⟩
  · rintro ⟨h1, h2⟩
    exact ⟨h1, fun a ha b hb e => h2 (by rw [← hb, ← e]; exact ha)⟩
theorem unlike_l1 (l : List Int) (hl : l.length < 4611686018427387904) : ∀ (d n j k : Nat), d + j = n → n < l.length → d < k →
    carcanetref05_Unlike.l1 k l (n : Int) (j : Int) = if l.getD n 0 ∈ (l.take n).drop j then some false else carcanetref05_Unlike.l0 (k - d - 1) l ((n + 1 : Nat) : Int) := by
  intro d
  induction d with
  | zero =>
    intro n j k h hn hk
    obtain ⟨k, rfl⟩ : ∃ m, k = m + 1 := ⟨k - 1, by omega⟩
    rw [carcanetref05_Unlike.l1, if_neg (by omega), wrap_succ n (by omega), List.drop_of_length_le (by rw [List.length_take]; omega), if_neg (by simp)]
    rfl
  | succ d ih =>
    intro n j k h hn hk
    obtain ⟨k, rfl⟩ : ∃ m, k = m + 1 := ⟨k - 1, by omega⟩
    have hg : (l.take n).getD j 0 = l.getD j 0 := by
      rw [List.getD_eq_getElem?_getD, List.getElem?_take_of_lt (by omega), ← List.getD_eq_getElem?_getD]
    rw [carcanetref05_Unlike.l1, if_pos (by omega), if_pos (by omega), if_pos (by omega), if_pos (by omega), if_pos (by omega), rd_nat, rd_nat, wrap_succ j (by omega),
      getD_drop0 (l.take n) j (by rw [List.length_take]; omega), hg]
    by_cases he : l.getD n 0 = l.getD j 0
    · rw [if_pos he, if_pos (by rw [he]; exact List.mem_cons_self)]
    · rw [if_neg he, ih n (j + 1) k (by omega) hn (by omega)]
      have : (l.getD n 0 ∈ l.getD j 0 :: (l.take n).drop (j + 1)) = (l.getD n 0 ∈ (l.take n).drop (j + 1)) := by
        rw [List.mem_cons]; exact propext ⟨fun h => h.resolve_left he, .inr⟩
      simp only [this]
      rw [show k + 1 - (d + 1) - 1 = k - d - 1 by omega]
theorem unlike_l0 (l : List Int) (hl : l.length < 4611686018427387904) : ∀ (d n k : Nat), d + n = l.length → d * (l.length + 2) < k → (l.take n).Nodup →
    carcanetref05_Unlike.l0 k l (n : Int) = some (decide l.Nodup) := by
  intro d
  induction d with
  | zero =>
    intro n k h hk hnd
    obtain ⟨k, rfl⟩ : ∃ m, k = m + 1 := ⟨k - 1, by omega⟩
    rw [carcanetref05_Unlike.l0, if_neg (by omega), decide_eq_true (by rw [List.take_of_length_le (by omega)] at hnd; exact hnd)]
  | succ d ih =>
    intro n k h hk hnd
    rw [Nat.succ_mul] at hk
    obtain ⟨k, rfl⟩ : ∃ m, k = m + 1 := ⟨k - 1, by omega⟩
    rw [carcanetref05_Unlike.l0, if_pos (by omega)]
    have h1 := unlike_l1 l hl n n 0 k (by omega) (by omega) (by omega)
    rw [List.drop_zero] at h1
    rw [show ((0 : Nat) : Int) = 0 from rfl] at h1
    rw [h1]
    by_cases hm : l.getD n 0 ∈ l.take n
    · rw [if_pos hm, decide_eq_false]
      intro hall
      exact ((take_nodup_succ l n (by omega)).1 (hall.sublist (List.take_sublist _ _))).2 hm
    · rw [if_neg hm]
      exact ih (n + 1) (k - n - 1) (by omega) (by omega) ((take_nodup_succ l n (by omega)).2 ⟨hnd, hm⟩)
theorem unlike_f (l : List Int) (hl : l.length < 4611686018427387904) (k : Nat) (hk : l.length * (l.length + 2) < k) : carcanetref05_Unlike.f k l = some (decide l.Nodup) := by
  have := unlike_l0 l hl l.length 0 k (by omega) hk (by simp)
  simpa [carcanetref05_Unlike.f] using this

end Go.Proofs.Ytngglgkemonibaa.P
