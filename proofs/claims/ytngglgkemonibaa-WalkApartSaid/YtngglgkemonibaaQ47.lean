/- Ap: walk.Apart tells which rows have no inner number in common with anything. -/
import Derived.Test.YtngglgkemonibaaQ45
import Derived.Test.YtngglgkemonibaaQ46
set_option linter.unusedVariables false
set_option linter.unusedSimpArgs false
set_option linter.unnecessarySimpa false
namespace Go.Proofs.Ytngglgkemonibaa.L
open Go Go.RowKit Go.Proofs.Ytngglgkemonibaa.B Go.Proofs.YtngglgkemonibaaW.PrintWords
set_option linter.unusedVariables false
set_option maxRecDepth 100000
set_option maxHeartbeats 2000000
theorem w64 (n : Int) (h : 0 ≤ n ∧ n < 9223372036854775808) : wrap64 n = n := by unfold wrap64; omega
theorem u64w (n : Int) (h : 0 ≤ n ∧ n < 9223372036854775808) : IntKind.u64.wrap n = n := by
  have : n % (2 ^ 64 : Int) = n := Int.emod_eq_of_lt h.1 (by omega)
  simp only [IntKind.wrap, IntKind.bits, IntKind.signed, Bool.false_and, this]
  rfl
theorem rd_nth (l : List Int) (i : Nat) : rd l (i : Int) = nth l i := rfl
/-- Where v begins. -/
theorem bs_ok (s : List Int) (v : Int) (hlen : s.length < 17592186044416) (hs : s.Pairwise (· ≤ ·)) : ∀ (d k i j : Nat), d = j - i → i ≤ j → j ≤ s.length → d + 1 ≤ k → (∀ m, m < i → nth s m < v) → (∀ m, j ≤ m → m < s.length → v ≤ nth s m) →
    ∃ (r : Nat) (b : Bool), P.slices_BinarySearch_int_int.l0 k s v (s.length : Int) (i : Int) (j : Int) = some ((r : Int), b) ∧ r ≤ s.length ∧ (∀ m, m < r → nth s m < v) ∧ (∀ m, r ≤ m → m < s.length → v ≤ nth s m) := by
  intro d
  induction d using Nat.strongRecOn with
  | _ d ih =>
    intro k i j hd hij hj hk hlo hhi
    obtain ⟨k, rfl⟩ : ∃ k', k = k' + 1 := ⟨k - 1, by omega⟩
    rw [P.slices_BinarySearch_int_int.l0]
    by_cases hlt : i < j
    · rw [if_pos (by omega)]
      have hm : wrap64 (IntKind.u64.wrap (wrap64 ((i : Int) + (j : Int))) / 2) = (((i + j) / 2 : Nat) : Int) := by
        rw [w64 ((i : Int) + j) (by omega), u64w _ (by omega), w64 _ (by omega)]; omega
      rw [hm, if_pos (by omega), if_pos (by omega)]
      have hmid : (i + j) / 2 < j := by omega
      have hmid2 : i ≤ (i + j) / 2 := by omega
      have hless : P.cmp_Less_int.f (rd s (((i + j) / 2 : Nat) : Int)) v = some (decide (nth s ((i + j) / 2) < v)) := by
        rw [rd_nth]
        simp [P.cmp_Less_int.f, P.cmp_isNaN_int.f]
      rw [hless, Option.bind_some]
      rw [List.pairwise_iff_getElem] at hs
      by_cases hv : nth s ((i + j) / 2) < v
      · rw [decide_eq_true hv, if_pos rfl]
        rw [show wrap64 ((((i + j) / 2 : Nat) : Int) + 1) = (((i + j) / 2 + 1 : Nat) : Int) by rw [w64 _ (by omega)]; omega]
        refine ih (j - ((i + j) / 2 + 1)) (by omega) k _ j rfl (by omega) hj (by omega) (fun m hm => ?_) hhi
        by_cases he : m = (i + j) / 2
        · rw [he]; exact hv
        · have := hs m ((i + j) / 2) (by omega) (by omega) (by omega)
          rw [← nth_eq, ← nth_eq] at this
          omega
      · rw [decide_eq_false hv, if_neg (by simp)]
        refine ih ((i + j) / 2 - i) (by omega) k i _ rfl (by omega) (by omega) (by omega) hlo (fun m hm hml => ?_)
        by_cases he : m = (i + j) / 2
        · rw [he]; omega
        · have := hs ((i + j) / 2) m (by omega) (by omega) (by omega)
          rw [← nth_eq, ← nth_eq] at this
          omega
    · rw [if_neg (by omega)]
      obtain rfl : i = j := by omega
      by_cases hi : i < s.length
      · rw [if_pos (by omega), if_pos (by omega), if_pos (by omega)]
        by_cases he : rd s (i : Int) = v
        · rw [if_pos he]; exact ⟨i, _, rfl, by omega, hlo, hhi⟩
        · rw [if_neg he]
          simp only [P.slices_isNaN_int.f, bne_self_eq_false, Option.bind_some, Bool.false_eq_true, if_false]
          exact ⟨i, _, rfl, by omega, hlo, hhi⟩
      · rw [if_neg (by omega)]
        exact ⟨i, _, rfl, by omega, hlo, hhi⟩
theorem head_mem {t : List Int} {v : Int} (hs : t.Pairwise (· ≤ ·)) (hv : ∀ x ∈ t, v ≤ x) : v ∈ t ↔ t[0]? = some v := by
  cases t with
  | nil => simp
  | cons x t =>
    rw [List.pairwise_cons] at hs
    simp only [List.mem_cons, List.getElem?_cons_zero, Option.some.injEq]
    constructor
    · rintro (h | h)
      · exact h.symm
      · have h1 := hs.1 v h; have h2 := hv x (by simp); omega
    · exact fun h => .inl h.symm
theorem lower_two {s : List Int} {v : Int} {r : Nat} (hs : s.Pairwise (· ≤ ·)) (hlo : ∀ m, m < r → nth s m < v) (hhi : ∀ m, r ≤ m → m < s.length → v ≤ nth s m) (hr : r ≤ s.length) (hc : 1 ≤ s.count v) :
    (r + 1 < s.length ∧ nth s (r + 1) = v) ↔ s.count v ≠ 1 := by
  have e : s.count v = (s.drop r).count v := by
    conv => lhs; rw [← List.take_append_drop r s]
    rw [List.count_append]
    have : (s.take r).count v = 0 := by
      rw [List.count_eq_zero]
      intro h
      obtain ⟨m, hm, hv⟩ := mem_nth.1 h
      rw [List.length_take] at hm
      have := hlo m (by omega)
      rw [nth_eq (by rw [List.length_take]; omega), List.getElem_take, ← nth_eq] at hv
      omega
    omega
  have hd : (s.drop r).Pairwise (· ≤ ·) := hs.sublist (List.drop_sublist r s)
  have hge : ∀ x ∈ s.drop r, v ≤ x := by
    intro x hx
    obtain ⟨m, hm, rfl⟩ := List.getElem_of_mem hx
    rw [List.length_drop] at hm
    rw [List.getElem_drop, ← nth_eq]
    exact hhi _ (by omega) (by omega)
  rw [e] at hc ⊢
  cases ht : s.drop r with
  | nil => rw [ht] at hc; simp at hc
  | cons x t =>
    rw [ht] at hd hge hc
    have hx : x = v := by
      have := (head_mem hd hge).1 (List.count_pos_iff.1 (by omega))
      simpa using this
    subst hx
    rw [List.pairwise_cons] at hd
    rw [List.count_cons_self]
    have h1 : t.count x ≠ 0 ↔ t[0]? = some x := by
      rw [← head_mem hd.2 (fun y hy => hge y (by simp [hy])), ← List.count_pos_iff]; omega
    have h2 : t[0]? = s[r + 1]? := by
      have : (s.drop r)[1]? = t[0]? := by rw [ht]; rfl
      rw [← this, List.getElem?_drop]
    constructor
    · rintro ⟨a, b⟩
      have := h1.2 (by rw [h2, List.getElem?_eq_getElem a, ← nth_eq, b])
      omega
    · intro h
      have := h1.1 (by omega)
      rw [h2] at this
      obtain ⟨a, b⟩ := List.getElem?_eq_some_iff.1 this
      exact ⟨a, by rw [nth_eq a, b]⟩
theorem le_sum {x : Nat} : ∀ {l : List Nat}, x ∈ l → x ≤ l.sum
  | y :: l, h => by
    rw [List.sum_cons]
    rcases List.mem_cons.1 h with rfl | h
    · omega
    · have := le_sum h; omega
/-- What is asked of the rows from i on. -/
def RestR (l : List (List Int)) (i : Nat) : Prop := ∀ m, i ≤ m → m < l.length → ∀ k, 1 ≤ k → k + 1 < (nthR l m).length → cntR l (nth (nthR l m) k) = 1
theorem rd_nthR (l : List (List Int)) (i : Nat) : P.rd_L5 l (i : Int) = nthR l i := rfl
section
variable {s : List Int} {l : List (List Int)} (hs : s.Pairwise (· ≤ ·)) (hlen : s.length < 17592186044416) (hcnt : ∀ v, s.count v = cntR l v) (hrow : ∀ i, i < l.length → (nthR l i).length ≤ 1000) (hll : l.length ≤ 1000)
include hs hlen hcnt hll
theorem ap_l2 {i : Nat} (hi : i < l.length) (inner : List Int) (hin : ∀ v ∈ inner, 1 ≤ cntR l v) (hil : inner.length ≤ 1000) (F : Nat) (hF : s.length + 5 ≤ F)
    (hnext : ∀ k, F ≤ k → ∃ b : Bool, P.walk_Apart.l1 k s l (l.length : Int) ((i + 1 : Nat) : Int) = some b ∧ (b = true ↔ RestR l (i + 1))) :
    ∀ (e c k : Nat), e = inner.length - c → c ≤ inner.length → e + 1 + F ≤ k → ∃ b : Bool, P.walk_Apart.l2 k s l (l.length : Int) (i : Int) inner (inner.length : Int) (c : Int) = some b ∧ (b = true ↔ (∀ m, c ≤ m → m < inner.length → cntR l (nth inner m) = 1) ∧ RestR l (i + 1)) := by
  intro e
  induction e with
  | zero =>
    intro c k he hc hk
    obtain ⟨k, rfl⟩ : ∃ k', k = k' + 1 := ⟨k - 1, by omega⟩
    rw [P.walk_Apart.l2, if_neg (by omega)]
    rw [show wrap64 ((i : Int) + 1) = ((i + 1 : Nat) : Int) by rw [w64 _ (by omega)]; omega]
    obtain ⟨b, h1, h2⟩ := hnext k (by omega)
    exact ⟨b, h1, by rw [h2]; exact ⟨fun h => ⟨fun m _ _ => by omega, h⟩, fun h => h.2⟩⟩
  | succ e ih =>
    intro c k he hc hk
    obtain ⟨k, rfl⟩ : ∃ k', k = k' + 1 := ⟨k - 1, by omega⟩
    rw [P.walk_Apart.l2, if_pos (by omega), if_pos (by omega), if_pos (by omega)]
    obtain ⟨r, b, hb, hr, hlo, hhi⟩ := bs_ok s (nth inner c) hlen hs s.length k 0 s.length (by omega) (by omega) (by omega) (by omega) (by omega) (fun m h1 h2 => by omega)
    have hb' : P.slices_BinarySearch_int_int.f k s (rd inner (c : Int)) = some ((r : Int), b) := by
      unfold P.slices_BinarySearch_int_int.f; rw [rd_nth]; exact hb
    rw [hb', Option.bind_some]
    simp only
    rw [show wrap64 ((r : Int) + 1) = ((r + 1 : Nat) : Int) by rw [w64 _ (by omega)]; omega, show wrap64 ((c : Int) + 1) = ((c + 1 : Nat) : Int) by rw [w64 _ (by omega)]; omega]
    have hmem : nth inner c ∈ inner := mem_nth.2 ⟨c, by omega, rfl⟩
    have h1 := lower_two hs hlo hhi hr (by rw [hcnt]; exact hin _ hmem)
    rw [hcnt] at h1
    obtain ⟨b', i1, i2⟩ := ih (c + 1) k (by omega) (by omega) (by omega)
    by_cases hone : cntR l (nth inner c) = 1
    · have hn : ¬ (r + 1 < s.length ∧ nth s (r + 1) = nth inner c) := fun h => (h1.1 h) hone
      have hkey : (∀ m, c + 1 ≤ m → m < inner.length → cntR l (nth inner m) = 1) ↔ (∀ m, c ≤ m → m < inner.length → cntR l (nth inner m) = 1) := by
        constructor
        · intro h m hm hm2
          by_cases e : m = c
          · rw [e]; exact hone
          · exact h m (by omega) hm2
        · exact fun h m hm => h m (by omega)
      rw [hkey] at i2
      by_cases hrl : r + 1 < s.length
      · rw [if_pos (by omega), if_pos (by omega), rd_nth, rd_nth, if_neg (fun h => hn ⟨hrl, h⟩)]
        exact ⟨b', i1, i2⟩
      · rw [if_neg (by omega)]
        exact ⟨b', i1, i2⟩
    · obtain ⟨g1, g2⟩ := h1.2 hone
      rw [if_pos (by omega), if_pos (by omega), rd_nth, rd_nth, if_pos g2]
      exact ⟨false, rfl, by simp; intro h; exact absurd (h c (Nat.le_refl _) (by omega)) hone⟩
include hrow
theorem ap_l1 : ∀ (d i k : Nat), d = l.length - i → i ≤ l.length → d * 1003 + s.length + 6 ≤ k → ∃ b : Bool, P.walk_Apart.l1 k s l (l.length : Int) (i : Int) = some b ∧ (b = true ↔ RestR l i) := by
  intro d
  induction d with
  | zero =>
    intro i k hd hi hk
    obtain ⟨k, rfl⟩ : ∃ k', k = k' + 1 := ⟨k - 1, by omega⟩
    rw [P.walk_Apart.l1, if_neg (by omega)]
    exact ⟨true, rfl, by simp; intro m h1 h2; omega⟩
  | succ d ih =>
    intro i k hd hi hk
    obtain ⟨k, rfl⟩ : ∃ k', k = k' + 1 := ⟨k - 1, by omega⟩
    rw [P.walk_Apart.l1, if_pos (by omega), if_pos (by omega), if_pos (by omega), rd_nthR]
    have hrl := hrow i (by omega)
    by_cases h3 : (nthR l i).length < 3
    · rw [if_pos (by omega), show wrap64 ((i : Int) + 1) = ((i + 1 : Nat) : Int) by rw [w64 _ (by omega)]; omega]
      obtain ⟨b, h1, h2⟩ := ih (i + 1) k (by omega) (by omega) (by omega)
      refine ⟨b, h1, ?_⟩
      rw [h2]
      constructor
      · intro h m hm hm2 c hc1 hc2
        by_cases e : m = i
        · rw [e] at hc2; omega
        · exact h m (by omega) hm2 c hc1 hc2
      · exact fun h m hm => h m (by omega)
    · rw [if_neg (by omega), show wrap64 (((nthR l i).length : Int) - 1) = (((nthR l i).length - 1 : Nat) : Int) by rw [w64 _ (by omega)]; omega, if_pos (by omega), if_pos (by omega), Int.toNat_natCast]
      have hil : (((nthR l i).take ((nthR l i).length - 1)).drop 1).length = (nthR l i).length - 2 := by rw [List.length_drop, List.length_take]; omega
      have hget : ∀ m, m < (nthR l i).length - 2 → nth (((nthR l i).take ((nthR l i).length - 1)).drop 1) m = nth (nthR l i) (m + 1) := by
        intro m hm
        rw [nth_eq (by omega), List.getElem_drop, List.getElem_take, ← nth_eq, Nat.add_comm]
      have hin : ∀ v ∈ ((nthR l i).take ((nthR l i).length - 1)).drop 1, 1 ≤ cntR l v := by
        intro v hv
        have hv' : v ∈ nthR l i := List.mem_of_mem_take (List.mem_of_mem_drop hv)
        have : 0 < (nthR l i).count v := List.count_pos_iff.2 hv'
        have h4 : (nthR l i).count v ∈ l.map (List.count v) := List.mem_map.2 ⟨nthR l i, by rw [nthR_eq (by omega)]; exact List.getElem_mem _, rfl⟩
        unfold cntR
        have := le_sum h4
        omega
      obtain ⟨b, h1, h2⟩ := ap_l2 hs hlen hcnt hll (by omega : i < l.length) _ hin (by omega) (d * 1003 + s.length + 6) (by omega) (fun k hk => ih (i + 1) k (by omega) (by omega) hk) _ 0 k rfl (by omega) (by rw [hil]; omega)
      refine ⟨b, h1, ?_⟩
      rw [h2, hil]
      constructor
      · rintro ⟨g1, g2⟩ m hm hm2 c hc1 hc2
        by_cases e : m = i
        · subst e
          have := g1 (c - 1) (by omega) (by omega)
          rw [hget _ (by omega), show c - 1 + 1 = c by omega] at this
          exact this
        · exact g2 m (by omega) hm2 c hc1 hc2
      · intro h
        refine ⟨fun m _ hm => ?_, fun m hm => h m (by omega)⟩
        rw [hget m hm]
        exact h i (Nat.le_refl _) (by omega) (m + 1) (by omega) (by omega)
end
theorem ap_l0 {l : List (List Int)} (hrow : ∀ i, i < l.length → (nthR l i).length ≤ 1000) (hll : l.length ≤ 1000) : ∀ (d k i : Nat) (acc : List Int), d = l.length - i → i ≤ l.length → acc.length ≤ i * 1000 →
    P.walk_Apart.l0 (k + d + 1) l acc l (l.length : Int) (i : Int) = (P.slices_Sort_int_int.f (acc ++ (l.drop i).flatten)).bind fun t => P.walk_Apart.l1 k t l (l.length : Int) 0 := by
  intro d
  induction d with
  | zero =>
    intro k i acc hd hi _
    rw [P.walk_Apart.l0, if_neg (by omega), List.drop_of_length_le (by omega)]
    simp
  | succ d ih =>
    intro k i acc hd hi hacc
    have hr := hrow i (by omega)
    rw [show k + (d + 1) + 1 = (k + d + 1) + 1 by omega, P.walk_Apart.l0, if_pos (by omega), if_pos (by omega), if_pos (by omega), rd_nthR, if_pos (by omega)]
    rw [show wrap64 ((i : Int) + 1) = ((i + 1 : Nat) : Int) by rw [w64 _ (by omega)]; omega]
    rw [ih k (i + 1) (acc ++ nthR l i) (by omega) (by omega) (by rw [List.length_append]; omega)]
    rw [List.drop_eq_getElem_cons (show i < l.length by omega), List.flatten_cons, ← nthR_eq, List.append_assoc]
theorem flat_len {l : List (List Int)} (hr : ∀ r ∈ l, r.length ≤ 1000) : l.flatten.length ≤ l.length * 1000 := by
  induction l with
  | nil => simp
  | cons x l ih =>
    have h1 := hr x (by simp)
    have h2 := ih fun r h => hr r (by simp [h])
    rw [List.flatten_cons, List.length_append, List.length_cons]
    omega
theorem apart_f {l : List (List Int)} (hll : l.length ≤ 1000) (hr : ∀ r ∈ l, r.length ≤ 1000) : ∃ k, P.walk_Apart.f k l = some (apartB l) := by
  have hrow : ∀ i, i < l.length → (nthR l i).length ≤ 1000 := fun i hi => hr _ (by rw [nthR_eq hi]; exact List.getElem_mem hi)
  have hfl := flat_len hr
  have hslen : (P.sortI l.flatten).length = l.flatten.length := P.sortI_length _
  obtain ⟨b, h1, h2⟩ := ap_l1 (s := P.sortI l.flatten) (l := l) (P.sortI_sorted _) (by omega) (fun v => by rw [(P.sortI_perm l.flatten).count_eq]; exact List.count_flatten) hrow hll l.length 0 (l.length * 1003 + (P.sortI l.flatten).length + 6) (by omega) (by omega) (by omega)
  refine ⟨l.length * 1003 + (P.sortI l.flatten).length + 6 + l.length + 1, ?_⟩
  unfold P.walk_Apart.f
  have h0 := ap_l0 hrow hll l.length (l.length * 1003 + (P.sortI l.flatten).length + 6) 0 [] (by omega) (by omega) (by simp)
  rw [show ((0 : Nat) : Int) = 0 from rfl] at h0 h1
  rw [h0]
  have hs : P.slices_Sort_int_int.f ([] ++ (l.drop 0).flatten) = some (P.sortI l.flatten) := by
    unfold P.slices_Sort_int_int.f
    rw [List.drop_zero, List.nil_append, if_pos (by omega)]
  rw [hs, Option.bind_some, h1, Option.some.injEq, Bool.eq_iff_iff, h2, apartB_iff]
  exact ⟨fun h i hi k h1 h2 => h i (Nat.zero_le _) hi k h1 h2, fun h i _ hi k h1 h2 => h i hi k h1 h2⟩
noncomputable def spec24 : Spec := spec1 asRows fun l => when (l.length ≤ 1000 ∧ ∀ r ∈ l, r.length ≤ 1000) (bv (apartB l))
theorem ok24 : SpecOk 24 spec24 := by
  intro us r h
  obtain ⟨x, l, rfl, hl, h⟩ := spec1_eq h
  obtain ⟨hlen, rfl⟩ := when_eq h
  rw [asRows_eq hl]
  obtain ⟨k, hk⟩ := apart_f hlen.1 hlen.2
  exact good24 hlen.1 hlen.2 hk
@[simp] theorem s24 (l : List (List Int)) (h : l.length ≤ 1000 ∧ ∀ r ∈ l, r.length ≤ 1000) : spec24 [rows l] = some (bv (apartB l)) := by
  unfold spec24; rw [spec1_v _ _ _ _ (asRows_rows l)]; exact when_pos _ h
@[simp] theorem call24 {E : Env} {σ : St Unit} {t : Nat} {l : List Operand} : effCall Try.prog E ΩU σ t 24 l = callO E 24 t (argsOf Try.prog ΩU σ [36] l) := eff_call Try.func24 Try.params24
end Go.Proofs.Ytngglgkemonibaa.L
