/- R53a: rest.wants. -/
import Derived.Test.YtnmocjhpbobahaaY17
set_option linter.unusedVariables false
set_option linter.unusedSimpArgs false
set_option linter.unnecessarySimpa false
namespace Go.Proofs.Ytnmocjhpbobahaa.L
open Go Go.RowKit
set_option maxRecDepth 100000
set_option maxHeartbeats 4000000
attribute [local simp] mk0 mk1 mk2
noncomputable abbrev EWants : Env := ext (ext (ext env0 43 specCorners) 62 specBeside) 72 specInner
abbrev wS1 (r : Rst) (a b c p q s : Nat) (x y z i : Int) : St Unit := [(0, rf r), (6, a3x a b c), (7, a3x p q s), (8, a3x x y z), (42, a3 a b c), (43, iv i)]
abbrev wS2 (r : Rst) (a b c p q s : Nat) (x y z : Int) (d : Bool) (l : List (Int × Int)) (i : Int) : St Unit := [(0, rf r), (7, a3x p q s), (8, a3x x y z), (11, bv d), (12, ⟨.one, [.c (.sl true 2 () (EL l))]⟩), (74, a3 a b c), (75, iv i)]
abbrev wS3 (r : Rst) (l : List (Int × Int)) (i : Nat) : St Unit := [(0, rf r), (12, ⟨.one, [.c (.sl true 2 () (EL l))]⟩), (134, ⟨.one, [.view 12 [0]]⟩), (135, iv l.length), (136, iv i)]
theorem ct_le (r : Rst) (m : Int) (v : Nat) : 0 ≤ ct r m v ∧ ct r m v ≤ 1 := by unfold ct; split <;> omega
theorem ct_eq {r : Rst} {m : Int} {v : Nat} (h : nth r.mark v = m) : ct r m v = 1 := by unfold ct; rw [if_pos h]
theorem ct_ne {r : Rst} {m m' : Int} {v : Nat} (h : nth r.mark v = m') (hn : m' ≠ m) : ct r m v = 0 := by unfold ct; rw [if_neg (by rw [h]; exact hn)]
theorem wantOne_mem {r : Rst} {i2 : Int} {d : Bool} {v : Nat} {o : Int} {e : Int × Int} (h : e ∈ wantOne r i2 d v o) : e.1 = o ∧ (e.2 = 1 ∨ e.2 = 2) := by
  unfold wantOne at h
  split at h
  · rw [List.mem_singleton] at h; subst h; exact ⟨rfl, .inr rfl⟩
  · split at h
    · rw [List.mem_singleton] at h; subst h; exact ⟨rfl, .inl rfl⟩
    · cases h
theorem wantOne_len (r : Rst) (i2 : Int) (d : Bool) (v : Nat) (o : Int) : (wantOne r i2 d v o).length ≤ 1 := by
  unfold wantOne; split
  · exact Nat.le_refl _
  · split
    · exact Nat.le_refl _
    · exact Nat.zero_le _
theorem wWants0 (n : Nat) (r : Rst) (hr : RstOk n r) (hn : n ≤ 1000000) (a b c p q s : Nat) (ha : a < n) (hb : b < n) (hc : c < n) (hp : p < n) (hq : q < n) (hs : s < n) (hm : ∀ v, v < n → nth r.mark v = 0 ∨ nth r.mark v = 1 ∨ nth r.mark v = 2) (hh : p = q ∨ p = s ∨ q = s ∨ 1 < cnt3 r 2 a b c ∨ 2 < cnt3 r 1 a b c) : ∃ k, Try.f53.body = some k ∧ RP (regOf Try.prog EWants 167 u53) k (argsSt 0 [rf r, cu6 ((a : Int), (b : Int), (c : Int), (p : Int), (q : Int), (s : Int))]) (endsAs Try.prog Try.f53 (wnB (wantsF r a b c p q s).1 (wantsF r a b c p q s).2)) := by
  refine ⟨_, rfl, ?_⟩
  generalize hQ : endsAs Try.prog Try.f53 (wnB (wantsF r a b c p q s).1 (wantsF r a b c p q s).2) = Q
  simp only [argsSt]
  have c1 := hr.near
  have c2 := hr.mark
  have a2 : a < r.mark.length := by omega
  have b2 : b < r.mark.length := by omega
  have c3 : c < r.mark.length := by omega
  by_cases hpq : p = q
  · subst hpq
    refine go ?_
    rw [show wantsF r a b c p p s = ([], false) by unfold wantsF; rw [if_pos (.inl rfl)]] at hQ
    show Q .ret _; refine fin_ret hQ rfl ?_
    rfl
  have pq : ¬ (p : Int) = q := by omega
  by_cases hps : p = s
  · subst hps
    refine go ?_
    rw [show wantsF r a b c p q p = ([], false) by unfold wantsF; rw [if_pos (.inr (.inl rfl))]] at hQ
    show Q .ret _; refine fin_ret hQ rfl ?_
    rfl
  have ps : ¬ (p : Int) = s := by omega
  by_cases hqs : q = s
  · subst hqs
    refine go ?_
    rw [show wantsF r a b c p q q = ([], false) by unfold wantsF; rw [if_pos (.inr (.inr (.inl rfl)))]] at hQ
    show Q .ret _; refine fin_ret hQ rfl ?_
    rfl
  have qs : ¬ (q : Int) = s := by omega
  refine go ?_
  have k0 := ct_le r
  apply rp_loop (fun k σ => (k = 3 ∧ σ = wS1 r a b c p q s (0) (0) (0) 0) ∨ (k = 2 ∧ σ = wS1 r a b c p q s (ct r 0 a) (ct r 1 a) (ct r 2 a) 1) ∨ (k = 1 ∧ σ = wS1 r a b c p q s (ct r 0 a + ct r 0 b) (ct r 1 a + ct r 1 b) (ct r 2 a + ct r 2 b) 2) ∨ (k = 0 ∧ σ = wS1 r a b c p q s (ct r 0 a + ct r 0 b + ct r 0 c) (ct r 1 a + ct r 1 b + ct r 1 c) (ct r 2 a + ct r 2 b + ct r 2 c) 3)) 3
  · exact .inl ⟨rfl, rfl⟩
  rintro k σ (⟨rfl, rfl⟩ | ⟨rfl, rfl⟩ | ⟨rfl, rfl⟩ | ⟨rfl, rfl⟩)
  · have h0 := k0 0 a
    have h1 := k0 1 a
    have h2 := k0 2 a
    have h3 := k0 0 b
    have h4 := k0 1 b
    have h5 := k0 2 b
    rcases hm a ha with h | h | h
    · rw [ct_eq h, ct_ne (m := 1) h (by omega), ct_ne (m := 2) h (by omega)]
      try simp only [Int.add_zero]
      refine go ?_
      exact nxt 2 (by omega) (.inr (.inl ⟨rfl, rfl⟩))
    · rw [ct_ne (m := 0) h (by omega), ct_eq h, ct_ne (m := 2) h (by omega)]
      try simp only [Int.add_zero]
      refine go ?_
      exact nxt 2 (by omega) (.inr (.inl ⟨rfl, rfl⟩))
    · rw [ct_ne (m := 0) h (by omega), ct_ne (m := 1) h (by omega), ct_eq h]
      try simp only [Int.add_zero]
      refine go ?_
      exact nxt 2 (by omega) (.inr (.inl ⟨rfl, rfl⟩))
  · have h0 := k0 0 a
    have h1 := k0 1 a
    have h2 := k0 2 a
    have h3 := k0 0 b
    have h4 := k0 1 b
    have h5 := k0 2 b
    rcases hm b hb with h | h | h
    · rw [ct_eq h, ct_ne (m := 1) h (by omega), ct_ne (m := 2) h (by omega)]
      try simp only [Int.add_zero]
      refine go ?_
      exact nxt 1 (by omega) (.inr (.inr (.inl ⟨rfl, rfl⟩)))
    · rw [ct_ne (m := 0) h (by omega), ct_eq h, ct_ne (m := 2) h (by omega)]
      try simp only [Int.add_zero]
      refine go ?_
      exact nxt 1 (by omega) (.inr (.inr (.inl ⟨rfl, rfl⟩)))
    · rw [ct_ne (m := 0) h (by omega), ct_ne (m := 1) h (by omega), ct_eq h]
      try simp only [Int.add_zero]
      refine go ?_
      exact nxt 1 (by omega) (.inr (.inr (.inl ⟨rfl, rfl⟩)))
  · have h0 := k0 0 a
    have h1 := k0 1 a
    have h2 := k0 2 a
    have h3 := k0 0 b
    have h4 := k0 1 b
    have h5 := k0 2 b
    rcases hm c hc with h | h | h
    · rw [ct_eq h, ct_ne (m := 1) h (by omega), ct_ne (m := 2) h (by omega)]
      try simp only [Int.add_zero]
      refine go ?_
      exact nxt 0 (by omega) (.inr (.inr (.inr ⟨rfl, rfl⟩)))
    · rw [ct_ne (m := 0) h (by omega), ct_eq h, ct_ne (m := 2) h (by omega)]
      try simp only [Int.add_zero]
      refine go ?_
      exact nxt 0 (by omega) (.inr (.inr (.inr ⟨rfl, rfl⟩)))
    · rw [ct_ne (m := 0) h (by omega), ct_ne (m := 1) h (by omega), ct_eq h]
      try simp only [Int.add_zero]
      refine go ?_
      exact nxt 0 (by omega) (.inr (.inr (.inr ⟨rfl, rfl⟩)))
  have hct : ∀ m, 0 ≤ cnt3 r m a b c ∧ cnt3 r m a b c ≤ 3 := fun m => by have := k0 m a; have := k0 m b; have := k0 m c; unfold cnt3; omega
  have g0 := hct 0
  have g1 := hct 1
  have g2 := hct 2
  rw [show ct r 0 a + ct r 0 b + ct r 0 c = cnt3 r 0 a b c from rfl, show ct r 1 a + ct r 1 b + ct r 1 c = cnt3 r 1 a b c from rfl, show ct r 2 a + ct r 2 b + ct r 2 c = cnt3 r 2 a b c from rfl]
  by_cases w1 : 1 < cnt3 r 2 a b c
  · rw [show wantsF r a b c p q s = ([], false) by unfold wantsF; rw [if_pos (.inr (.inr (.inr (.inl w1))))]] at hQ
    refine go ?_
    show Q .ret _; refine fin_ret hQ rfl ?_
    rfl
  by_cases w2 : 2 < cnt3 r 1 a b c
  · rw [show wantsF r a b c p q s = ([], false) by unfold wantsF; rw [if_pos (.inr (.inr (.inr (.inr (.inl w2)))))]] at hQ
    refine go ?_
    show Q .ret _; refine fin_ret hQ rfl ?_
    rfl
  rcases hh with h | h | h | h | h <;> contradiction
end Go.Proofs.Ytnmocjhpbobahaa.L
