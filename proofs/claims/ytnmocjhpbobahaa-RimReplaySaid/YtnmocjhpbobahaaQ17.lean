/- R53c: rest.wants. -/
import Derived.Test.YtnmocjhpbobahaaQ15
set_option linter.unusedVariables false
set_option linter.unusedSimpArgs false
set_option linter.unnecessarySimpa false
namespace Go.Proofs.Ytnmocjhpbobahaa.L
open Go Go.RowKit
set_option maxRecDepth 100000
set_option maxHeartbeats 4000000
attribute [local simp] mk0 mk1 mk2
theorem wWants2 (n : Nat) (r : Rst) (hr : RstOk n r) (hn : n ≤ 1000000) (a b c p q s : Nat) (ha : a < n) (hb : b < n) (hc : c < n) (hp : p < n) (hq : q < n) (hs : s < n) (hm : ∀ v, v < n → nth r.mark v = 0 ∨ nth r.mark v = 1 ∨ nth r.mark v = 2) (hpq : ¬ p = q) (hps : ¬ p = s) (hqs : ¬ q = s) (w1 : ¬ 1 < cnt3 r 2 a b c) (w2 : ¬ 2 < cnt3 r 1 a b c) (w3 : ¬ cnt3 r 2 a b c = 1) : ∃ k, Try.f53.body = some k ∧ RP (regOf Try.prog EWants 167 u53) k (argsSt 0 [rf r, cu6 ((a : Int), (b : Int), (c : Int), (p : Int), (q : Int), (s : Int))]) (endsAs Try.prog Try.f53 (wnB (wantsF r a b c p q s).1 (wantsF r a b c p q s).2)) := by
  refine ⟨_, rfl, ?_⟩
  generalize hQ : endsAs Try.prog Try.f53 (wnB (wantsF r a b c p q s).1 (wantsF r a b c p q s).2) = Q
  simp only [argsSt]
  have c1 := hr.near
  have c2 := hr.mark
  have a2 : a < r.mark.length := by omega
  have b2 : b < r.mark.length := by omega
  have c3 : c < r.mark.length := by omega
  have pq : ¬ (p : Int) = q := by omega
  have ps : ¬ (p : Int) = s := by omega
  have qs : ¬ (q : Int) = s := by omega
  refine go ?_
  have k0 := ct_le r
  apply rp_loop (fun k σ => (k = 3 ∧ σ = wS1 r a b c p q s (0) (0) (0) 0) ∨ (k = 2 ∧ σ = wS1 r a b c p q s (ct r 0 a) (ct r 1 a) (ct r 2 a) 1) ∨ (k = 1 ∧ σ = wS1 r a b c p q s (ct r 0 a + ct r 0 b) (ct r 1 a + ct r 1 b) (ct r 2 a + ct r 2 b) 2) ∨ (k = 0 ∧ σ = wS1 r a b c p q s (ct r 0 a + ct r 0 b + ct r 0 c) (ct r 1 a + ct r 1 b + ct r 1 c) (ct r 2 a + ct r 2 b + ct r 2 c) 3)) 3
  · exact .inl ⟨rfl, rfl⟩
  rintro k σ (⟨rfl, rfl⟩ | ⟨rfl, rfl⟩ | ⟨rfl, rfl⟩ | ⟨rfl, rfl⟩)
  · have h0 := k0 0 a
    have h1 := k0 1 a
    have h2 := k0 2 a
    have h3 := k0 0 b
    have h4 := k0 1 b
    have h5 := k0 2 b
    rcases hm a ha with h | h | h
    · rw [ct_eq h, ct_ne (m := 1) h (by omega), ct_ne (m := 2) h (by omega)]
      try simp only [Int.add_zero]
      refine go ?_
      exact nxt 2 (by omega) (.inr (.inl ⟨rfl, rfl⟩))
    · rw [ct_ne (m := 0) h (by omega), ct_eq h, ct_ne (m := 2) h (by omega)]
      try simp only [Int.add_zero]
      refine go ?_
      exact nxt 2 (by omega) (.inr (.inl ⟨rfl, rfl⟩))
    · rw [ct_ne (m := 0) h (by omega), ct_ne (m := 1) h (by omega), ct_eq h]
      try simp only [Int.add_zero]
      refine go ?_
      exact nxt 2 (by omega) (.inr (.inl ⟨rfl, rfl⟩))
  · have h0 := k0 0 a
    have h1 := k0 1 a
    have h2 := k0 2 a
    have h3 := k0 0 b
    have h4 := k0 1 b
    have h5 := k0 2 b
    rcases hm b hb with h | h | h
    · rw [ct_eq h, ct_ne (m := 1) h (by omega), ct_ne (m := 2) h (by omega)]
      try simp only [Int.add_zero]
      refine go ?_
      exact nxt 1 (by omega) (.inr (.inr (.inl ⟨rfl, rfl⟩)))
    · rw [ct_ne (m := 0) h (by omega), ct_eq h, ct_ne (m := 2) h (by omega)]
      try simp only [Int.add_zero]
      refine go ?_
      exact nxt 1 (by omega) (.inr (.inr (.inl ⟨rfl, rfl⟩)))
    · rw [ct_ne (m := 0) h (by omega), ct_ne (m := 1) h (by omega), ct_eq h]
      try simp only [Int.add_zero]
      refine go ?_
      exact nxt 1 (by omega) (.inr (.inr (.inl ⟨rfl, rfl⟩)))
  · have h0 := k0 0 a
    have h1 := k0 1 a
    have h2 := k0 2 a
    have h3 := k0 0 b
    have h4 := k0 1 b
    have h5 := k0 2 b
    rcases hm c hc with h | h | h
    · rw [ct_eq h, ct_ne (m := 1) h (by omega), ct_ne (m := 2) h (by omega)]
      try simp only [Int.add_zero]
      refine go ?_
      exact nxt 0 (by omega) (.inr (.inr (.inr ⟨rfl, rfl⟩)))
    · rw [ct_ne (m := 0) h (by omega), ct_eq h, ct_ne (m := 2) h (by omega)]
      try simp only [Int.add_zero]
      refine go ?_
      exact nxt 0 (by omega) (.inr (.inr (.inr ⟨rfl, rfl⟩)))
    · rw [ct_ne (m := 0) h (by omega), ct_ne (m := 1) h (by omega), ct_eq h]
      try simp only [Int.add_zero]
      refine go ?_
      exact nxt 0 (by omega) (.inr (.inr (.inr ⟨rfl, rfl⟩)))
  have hct : ∀ m, 0 ≤ cnt3 r m a b c ∧ cnt3 r m a b c ≤ 3 := fun m => by have := k0 m a; have := k0 m b; have := k0 m c; unfold cnt3; omega
  have g0 := hct 0
  have g1 := hct 1
  have g2 := hct 2
  rw [show ct r 0 a + ct r 0 b + ct r 0 c = cnt3 r 0 a b c from rfl, show ct r 1 a + ct r 1 b + ct r 1 c = cnt3 r 1 a b c from rfl, show ct r 2 a + ct r 2 b + ct r 2 c = cnt3 r 2 a b c from rfl]
  have hall : ∀ e ∈ wantsAll r a b c p q s, (∃ x : Nat, e.1 = x ∧ x < n) ∧ (e.2 = 1 ∨ e.2 = 2) := by
    intro e he
    unfold wantsAll at he
    rcases List.mem_append.1 he with he | he
    · rcases List.mem_append.1 he with he | he
      · obtain ⟨h1, h2⟩ := wantOne_mem he; exact ⟨⟨p, h1, hp⟩, h2⟩
      · obtain ⟨h1, h2⟩ := wantOne_mem he; exact ⟨⟨q, h1, hq⟩, h2⟩
    · obtain ⟨h1, h2⟩ := wantOne_mem he; exact ⟨⟨s, h1, hs⟩, h2⟩
  have hlen : (wantsAll r a b c p q s).length ≤ 3 := by
    unfold wantsAll
    rw [List.length_append, List.length_append]
    have := wantOne_len r (cnt3 r 2 a b c) (decide (cnt3 r 2 a b c = 1 ∨ cnt3 r 1 a b c = 2)) a p
    have := wantOne_len r (cnt3 r 2 a b c) (decide (cnt3 r 2 a b c = 1 ∨ cnt3 r 1 a b c = 2)) b q
    have := wantOne_len r (cnt3 r 2 a b c) (decide (cnt3 r 2 a b c = 1 ∨ cnt3 r 1 a b c = 2)) c s
    omega
  have hF : (wantsAll r a b c p q s).any (badW r) = true → wantsF r a b c p q s = ([], false) := fun h => by unfold wantsF; rw [if_pos (.inr (.inr (.inr (.inr (.inr h)))))]
  have hT : (wantsAll r a b c p q s).any (badW r) = false → wantsF r a b c p q s = (wantsAll r a b c p q s, true) := fun h => by
    unfold wantsF; rw [if_neg (by rintro (h' | h' | h' | h' | h' | h') <;> simp_all)]
  refine go ?_
  have w4 : cnt3 r 2 a b c = 0 := by omega
  have hd : decide (cnt3 r 2 a b c = 1 ∨ cnt3 r 1 a b c = 2) = decide (cnt3 r 1 a b c = 2) := by simp [w3]
  generalize hD : decide (cnt3 r 1 a b c = 2) = D at *
  rw [w4]
  apply rp_loop (fun k σ => (k = 3 ∧ σ = wS2 r a b c p q s (cnt3 r 0 a b c) (cnt3 r 1 a b c) 0 D (([] : List (Int × Int))) 0) ∨ (k = 2 ∧ σ = wS2 r a b c p q s (cnt3 r 0 a b c) (cnt3 r 1 a b c) 0 D (wantOne r 0 D a p) 1) ∨ (k = 1 ∧ σ = wS2 r a b c p q s (cnt3 r 0 a b c) (cnt3 r 1 a b c) 0 D (wantOne r 0 D a p ++ wantOne r 0 D b q) 2) ∨ (k = 0 ∧ σ = wS2 r a b c p q s (cnt3 r 0 a b c) (cnt3 r 1 a b c) 0 D (wantOne r 0 D a p ++ (wantOne r 0 D b q ++ wantOne r 0 D c s)) 3)) 3
  · exact .inl ⟨rfl, rfl⟩
  rintro k σ (⟨rfl, rfl⟩ | ⟨rfl, rfl⟩ | ⟨rfl, rfl⟩ | ⟨rfl, rfl⟩)
  · rcases hm a ha with h | h | h
    · cases hDD : D with
      | true =>
        rw [show wantOne r 0 true a p = [(((p : Nat) : Int), 2)] by simp [wantOne, apexB, h]]
        refine go ?_
        exact nxt 2 (by omega) (.inr (.inl ⟨rfl, rfl⟩))
      | false =>
        rw [show wantOne r 0 false a p = [] by simp [wantOne, apexB, h]]
        refine go ?_
        exact nxt 2 (by omega) (.inr (.inl ⟨rfl, rfl⟩))
    · cases hDD : D with
      | true =>
        rw [show wantOne r 0 true a p = [(((p : Nat) : Int), 1)] by simp [wantOne, apexB, h]]
        refine go ?_
        exact nxt 2 (by omega) (.inr (.inl ⟨rfl, rfl⟩))
      | false =>
        rw [show wantOne r 0 false a p = [(((p : Nat) : Int), 1)] by simp [wantOne, apexB, h]]
        refine go ?_
        exact nxt 2 (by omega) (.inr (.inl ⟨rfl, rfl⟩))
    · cases hDD : D with
      | true =>
        rw [show wantOne r 0 true a p = [(((p : Nat) : Int), 2)] by simp [wantOne, apexB, h]]
        refine go ?_
        exact nxt 2 (by omega) (.inr (.inl ⟨rfl, rfl⟩))
      | false =>
        rw [show wantOne r 0 false a p = [] by simp [wantOne, apexB, h]]
        refine go ?_
        exact nxt 2 (by omega) (.inr (.inl ⟨rfl, rfl⟩))
  · rcases hm b hb with h | h | h
    · cases hDD : D with
      | true =>
        rw [show wantOne r 0 true b q = [(((q : Nat) : Int), 2)] by simp [wantOne, apexB, h]]
        have l0 := wantOne_len r 0 true a p
        refine go ?_
        exact nxt 1 (by omega) (.inr (.inr (.inl ⟨rfl, rfl⟩)))
      | false =>
        rw [show wantOne r 0 false b q = [] by simp [wantOne, apexB, h]]
        have l0 := wantOne_len r 0 false a p
        rw [List.append_nil]
        refine go ?_
        exact nxt 1 (by omega) (.inr (.inr (.inl ⟨rfl, rfl⟩)))
    · cases hDD : D with
      | true =>
        rw [show wantOne r 0 true b q = [(((q : Nat) : Int), 1)] by simp [wantOne, apexB, h]]
        have l0 := wantOne_len r 0 true a p
        refine go ?_
        exact nxt 1 (by omega) (.inr (.inr (.inl ⟨rfl, rfl⟩)))
      | false =>
        rw [show wantOne r 0 false b q = [(((q : Nat) : Int), 1)] by simp [wantOne, apexB, h]]
        have l0 := wantOne_len r 0 false a p
        refine go ?_
        exact nxt 1 (by omega) (.inr (.inr (.inl ⟨rfl, rfl⟩)))
    · cases hDD : D with
      | true =>
        rw [show wantOne r 0 true b q = [(((q : Nat) : Int), 2)] by simp [wantOne, apexB, h]]
        have l0 := wantOne_len r 0 true a p
        refine go ?_
        exact nxt 1 (by omega) (.inr (.inr (.inl ⟨rfl, rfl⟩)))
      | false =>
        rw [show wantOne r 0 false b q = [] by simp [wantOne, apexB, h]]
        have l0 := wantOne_len r 0 false a p
        rw [List.append_nil]
        refine go ?_
        exact nxt 1 (by omega) (.inr (.inr (.inl ⟨rfl, rfl⟩)))
  · rcases hm c hc with h | h | h
    · cases hDD : D with
      | true =>
        rw [show wantOne r 0 true c s = [(((s : Nat) : Int), 2)] by simp [wantOne, apexB, h]]
        have l0 := wantOne_len r 0 true a p
        have l1 := wantOne_len r 0 true b q
        have l3 : (wantOne r 0 true a p ++ wantOne r 0 true b q).length ≤ 2 := by rw [List.length_append]; omega
        refine go ?_
        exact nxt 0 (by omega) (.inr (.inr (.inr ⟨rfl, rfl⟩)))
      | false =>
        rw [show wantOne r 0 false c s = [] by simp [wantOne, apexB, h]]
        have l0 := wantOne_len r 0 false a p
        have l1 := wantOne_len r 0 false b q
        have l3 : (wantOne r 0 false a p ++ wantOne r 0 false b q).length ≤ 2 := by rw [List.length_append]; omega
        rw [List.append_nil]
        refine go ?_
        exact nxt 0 (by omega) (.inr (.inr (.inr ⟨rfl, rfl⟩)))
    · cases hDD : D with
      | true =>
        rw [show wantOne r 0 true c s = [(((s : Nat) : Int), 1)] by simp [wantOne, apexB, h]]
        have l0 := wantOne_len r 0 true a p
        have l1 := wantOne_len r 0 true b q
        have l3 : (wantOne r 0 true a p ++ wantOne r 0 true b q).length ≤ 2 := by rw [List.length_append]; omega
        refine go ?_
        exact nxt 0 (by omega) (.inr (.inr (.inr ⟨rfl, rfl⟩)))
      | false =>
        rw [show wantOne r 0 false c s = [(((s : Nat) : Int), 1)] by simp [wantOne, apexB, h]]
        have l0 := wantOne_len r 0 false a p
        have l1 := wantOne_len r 0 false b q
        have l3 : (wantOne r 0 false a p ++ wantOne r 0 false b q).length ≤ 2 := by rw [List.length_append]; omega
        refine go ?_
        exact nxt 0 (by omega) (.inr (.inr (.inr ⟨rfl, rfl⟩)))
    · cases hDD : D with
      | true =>
        rw [show wantOne r 0 true c s = [(((s : Nat) : Int), 2)] by simp [wantOne, apexB, h]]
        have l0 := wantOne_len r 0 true a p
        have l1 := wantOne_len r 0 true b q
        have l3 : (wantOne r 0 true a p ++ wantOne r 0 true b q).length ≤ 2 := by rw [List.length_append]; omega
        refine go ?_
        exact nxt 0 (by omega) (.inr (.inr (.inr ⟨rfl, rfl⟩)))
      | false =>
        rw [show wantOne r 0 false c s = [] by simp [wantOne, apexB, h]]
        have l0 := wantOne_len r 0 false a p
        have l1 := wantOne_len r 0 false b q
        have l3 : (wantOne r 0 false a p ++ wantOne r 0 false b q).length ≤ 2 := by rw [List.length_append]; omega
        rw [List.append_nil]
        refine go ?_
        exact nxt 0 (by omega) (.inr (.inr (.inr ⟨rfl, rfl⟩)))
  · have hall2 : wantOne r 0 D a p ++ (wantOne r 0 D b q ++ wantOne r 0 D c s) = wantsAll r a b c p q s := by unfold wantsAll; rw [hd, w4, List.append_assoc]
    rw [hall2]
    refine go ?_
    apply rp_loop (fun k σ => ∃ i : Nat, i ≤ (wantsAll r a b c p q s).length ∧ k = (wantsAll r a b c p q s).length - i ∧ ((wantsAll r a b c p q s).take i).any (badW r) = false ∧ σ = wS3 r (wantsAll r a b c p q s) i) (wantsAll r a b c p q s).length
    · exact ⟨0, by omega, by omega, rfl, rfl⟩
    rintro k σ ⟨i, hi, rfl, hno, rfl⟩
    generalize wantsAll r a b c p q s = all at *
    by_cases hil : i < all.length
    · have hmem : ent all i ∈ all := by rw [ent_eq hil]; exact List.getElem_mem hil
      obtain ⟨⟨x, hx, hxn⟩, hk⟩ := hall _ hmem
      have x2 : x < r.mark.length := by omega
      have hxo : HasOk r x := ⟨n, hr, hn, hxn⟩
      have hbad : badW r (ent all i) = (decide ((ent all i).2 = 2 ∧ nth r.mark x = 1) || (decide ((ent all i).2 = 1) && innB r x)) := by unfold badW; rw [hx, Int.toNat_natCast]
      have hnx : badW r (ent all i) = false → (all.take (i + 1)).any (badW r) = false := by
        intro h
        rw [List.take_succ_eq_append_getElem hil, List.any_append, hno, ← ent_eq hil]
        simp [h]
      have hps : badW r (ent all i) = true → all.any (badW r) = true := fun h => List.any_eq_true.2 ⟨_, hmem, h⟩
      generalize hE : ent all i = e at *
      obtain ⟨e1, e2⟩ := e
      simp only at hx hk hbad
      subst hx
      rcases hk with rfl | rfl
      · cases hg : innB r x with
        | true =>
          rw [hF (hps (by rw [hbad, hg]; rfl))] at hQ
          refine go ?_
          rw [hE]
          refine go ?_
          simp only [hg]
          refine go ?_
          show Q .ret _; refine fin_ret hQ rfl ?_
          rfl
        | false =>
          refine go ?_
          rw [hE]
          refine go ?_
          simp only [hg]
          refine go ?_
          exact nxt (all.length - (i + 1)) (by omega) ⟨i + 1, by omega, rfl, hnx (by rw [hbad, hg]; rfl), rfl⟩
      · by_cases hx1 : nth r.mark x = 1
        · rw [hF (hps (by rw [hbad, hx1]; rfl))] at hQ
          refine go ?_
          rw [hE]
          refine go ?_
          show Q .ret _; refine fin_ret hQ rfl ?_
          rfl
        · refine go ?_
          rw [hE]
          refine go ?_
          exact nxt (all.length - (i + 1)) (by omega) ⟨i + 1, by omega, rfl, hnx (by rw [hbad]; simp [hx1]), rfl⟩
    obtain rfl : i = all.length := by omega
    rw [List.take_length] at hno
    rw [hT hno] at hQ
    refine go ?_
    show Q .ret _; refine fin_ret hQ rfl ?_
    rfl

end Go.Proofs.Ytnmocjhpbobahaa.L
