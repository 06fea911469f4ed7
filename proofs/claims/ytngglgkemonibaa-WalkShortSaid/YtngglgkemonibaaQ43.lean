/- T16: walk.Whole. -/
import Derived.Test.YtngglgkemonibaaQ41
import Derived.Test.YtngglgkemonibaaQ21
import Derived.Test.YtngglgkemonibaaQ25
import Derived.Test.YtngglgkemonibaaQ42
set_option linter.unusedVariables false
set_option linter.unusedSimpArgs false
set_option linter.unnecessarySimpa false
namespace Go.Proofs.Ytngglgkemonibaa.L
open Go Go.RowKit
set_option maxRecDepth 100000
set_option maxHeartbeats 4000000
/-- What the marks tell. -/
structure Mk (N : Nat) (es : List (Int × Int)) (l A M : List Int) : Prop where
  len : A.length = N
  nd : M.Nodup
  sub : M ⊆ l
  fst : nth l 0 ∈ M
  reach : ∀ x ∈ M, Reach es l (nth l 0) x
  val : ∀ x : Nat, x < N → nth A x = if (x : Int) ∈ M then 2 else if (x : Int) ∈ l then 1 else 0
def closedE (es : List (Int × Int)) (l M : List Int) (i : Nat) : Prop := ∀ j, j < i → (ent es j).1 ∈ l → (ent es j).2 ∈ l → ((ent es j).1 ∈ M ↔ (ent es j).2 ∈ M)
theorem Mk.hit {N : Nat} {es : List (Int × Int)} {l A M : List Int} (h : Mk N es l A M) {p q : Int} (he : Adj es p q) (hp : p ∈ l) (hq : q ∈ l) (hpr : 0 ≤ p ∧ p < N) (hqr : 0 ≤ q ∧ q < N) (hx : p ∈ M) (hy : q ∉ M) {B : List Int} (hB : B.length = N) (hv : ∀ x : Nat, x < N → nth B x = if (x : Int) = p ∨ (x : Int) = q then 2 else nth A x) :
    Mk N es l B (M ++ [q]) := by
  refine ⟨hB, ?_, ?_, List.mem_append.2 (.inl h.fst), ?_, ?_⟩
  · rw [List.nodup_append]
    exact ⟨h.nd, by simp, fun a ha b hb => by rw [List.mem_singleton.1 hb]; exact fun e => hy (e ▸ ha)⟩
  · intro x hx
    rcases List.mem_append.1 hx with hx | hx
    · exact h.sub hx
    · rw [List.mem_singleton.1 hx]; exact hq
  · intro x hx'
    rcases List.mem_append.1 hx' with hx' | hx'
    · exact h.reach x hx'
    · rw [List.mem_singleton.1 hx']; exact (h.reach p hx).step he hq
  · intro x hxN
    rw [hv x hxN, h.val x hxN]
    by_cases h1 : (x : Int) = p
    · rw [if_pos (.inl h1), if_pos (List.mem_append.2 (.inl (h1 ▸ hx)))]
    · by_cases h2 : (x : Int) = q
      · rw [if_pos (.inr h2), if_pos (List.mem_append.2 (.inr (List.mem_singleton.2 h2)))]
      · rw [if_neg (fun h => h.elim h1 h2)]
        by_cases h3 : (x : Int) ∈ M
        · rw [if_pos h3, if_pos (List.mem_append.2 (.inl h3))]
        · rw [if_neg h3, if_neg (c := (x : Int) ∈ M ++ [q]) (fun h => (List.mem_append.1 h).elim h3 (fun h => h2 (List.mem_singleton.1 h)))]
theorem Mk.two {N : Nat} {es : List (Int × Int)} {l A M : List Int} (h : Mk N es l A M) {p : Int} (hp : 0 ≤ p ∧ p < N) : (nth A p.toNat = 2 ↔ p ∈ M) ∧ (nth A p.toNat = 1 ↔ p ∈ l ∧ p ∉ M) ∧ (nth A p.toNat = 0 ↔ p ∉ l) ∧ (nth A p.toNat = 0 ∨ nth A p.toNat = 1 ∨ nth A p.toNat = 2) := by
  have := h.val p.toNat (by omega)
  rw [Int.toNat_of_nonneg hp.1] at this
  rw [this]
  by_cases h1 : p ∈ M
  · have h2 := h.sub h1
    simp [h1, h2]
  · by_cases h2 : p ∈ l <;> simp [h1, h2]
abbrev E16 : Env := ext (ext (ext (ext env0 32 spec32) 33 spec33) 36 spec36) 37 spec37
theorem w16 (n : Int) (es : List (Int × Int)) (l : List Int) (hl : l.length ≤ 17592186043904) (b : Bool) (hb : b = true ↔ WholeG n es l) : ∃ c, Try.f16.body = some c ∧ RP (regOf Try.prog E16 106 u16) c (argsSt 0 [gr n es, ints l]) (endsAs Try.prog Try.f16 (bv b)) := by
  refine ⟨_, rfl, ?_⟩
  generalize hQ : endsAs Try.prog Try.f16 (bv b) = Q
  simp only [argsSt]
  refine gs ?_
  by_cases hok : RightG n es ∧ 0 < l.length ∧ l.Nodup ∧ 0 ≤ minL l ∧ maxL l < n
  case neg =>
    have hans : b = false := by
      rw [Bool.eq_false_iff]
      intro h
      obtain ⟨h1, h2, h3, h4, _⟩ := hb.1 h
      have h5 : ∀ x ∈ l, 0 ≤ x ∧ x ≤ n - 1 := fun x hx => by obtain ⟨i, hi, rfl⟩ := mem_nth.1 hx; have := h4 i hi; omega
      have h6 := (maxL_le h2 (n - 1)).2 fun x hx => (h5 x hx).2
      exact hok ⟨h1, h2, h3, (le_minL h2 0).2 fun x hx => (h5 x hx).1, by omega⟩
    rw [hans] at hQ
    by_cases hR : RightG n es
    case neg =>
      refine go ?_
      show Q .ret _; refine fin_ret hQ rfl ?_
      rfl
    by_cases h0 : 0 < l.length
    case neg =>
      have hne : l = [] := List.eq_nil_of_length_eq_zero (by omega)
      refine go ?_
      show Q .ret _; refine fin_ret hQ rfl ?_
      rfl
    have hne : ¬ l = [] := fun h => by rw [h] at h0; exact absurd h0 (by decide)
    by_cases hn : l.Nodup
    case neg =>
      refine go ?_
      show Q .ret _; refine fin_ret hQ rfl ?_
      rfl
    by_cases h1 : minL l < 0
    · refine go ?_
      show Q .ret _; refine fin_ret hQ rfl ?_
      rfl
    have h2 : n ≤ maxL l := by
      apply Classical.byContradiction
      intro h2
      exact hok ⟨hR, h0, hn, by omega, by omega⟩
    refine go ?_
    show Q .ret _; refine fin_ret hQ rfl ?_
    rfl
  obtain ⟨hR, h0, hn, h1, h2⟩ := hok
  have hne : ¬ l = [] := fun h => by rw [h] at h0; exact absurd h0 (by decide)
  have hlen : es.length ≤ 4000 := hR.1.2.2
  have hin : ∀ x ∈ l, 0 ≤ x ∧ x < n := fun x hx => ⟨(le_minL h0 0).1 h1 x hx, by have := (maxL_le h0 (n - 1)).1 (by omega) x hx; omega⟩
  obtain ⟨N, rfl⟩ : ∃ N : Nat, n = N := ⟨n.toNat, by have := hR.1.1; omega⟩
  have hN : N ≤ 1000 := by have := hR.1.2.1; omega
  refine go ?_
  refine RP.mono (Q := fun e σ => e = .exit 0 ∧ ∃ (A : List Int) (w w' w'' w3 : SV Unit), A.length = N ∧ (∀ x : Nat, x < N → nth A x = if (x : Int) ∈ l then 1 else 0) ∧ σ = [(1, ints l), (2, gbx N es), (5, ow A), (40, w), (41, w'), (42, w''), (43, w3)]) ?_ ?_
  · apply rp_loop (fun k σ => ∃ (i : Nat) (A : List Int), i ≤ l.length ∧ k = l.length - i ∧ A.length = N ∧ (∀ x : Nat, x < N → nth A x = if (x : Int) ∈ l.take i then 1 else 0) ∧ σ = [(1, ints l), (2, gbx N es), (5, ow A), (40, ints l), (41, iv l.length), (42, iv i)]) l.length
    · exact ⟨0, List.replicate N 0, by omega, by omega, by simp, fun x hx => by rw [nth_rep hx]; simp, rfl⟩
    rintro k σ ⟨i, A, hi, rfl, hA, hv, rfl⟩
    by_cases hil : i < l.length
    case neg =>
      refine go ?_
      rw [List.take_of_length_le (by omega)] at hv
      exact ⟨rfl, A, _, _, _, _, hA, hv, rfl⟩
    have hr := hin (nth l i) (mem_nth.2 ⟨i, hil, rfl⟩)
    refine go ?_
    refine nxt (l.length - (i + 1)) (by omega) ⟨i + 1, A.set (nth l i).toNat 1, by omega, by omega, by simpa using hA, fun x hx => ?_, rfl⟩
    rw [nth_set (by omega), hv x hx, nth_take hil]
    by_cases hx2 : (nth l i).toNat = x
    · rw [if_pos hx2, if_pos (List.mem_append.2 (.inr (List.mem_singleton.2 (by omega))))]
    · rw [if_neg hx2]
      by_cases hx3 : (x : Int) ∈ l.take i
      · rw [if_pos hx3, if_pos (List.mem_append.2 (.inl hx3))]
      · rw [if_neg hx3, if_neg]
        intro h
        rcases List.mem_append.1 h with h | h
        · exact hx3 h
        · rw [List.mem_singleton] at h; omega
  rintro e σ ⟨rfl, A, w, w', w2, w3, hA, hv, rfl⟩
  simp only [inBlock_exit, if_true, thenR_normal]
  have hr0 := hin (nth l 0) (mem_nth.2 ⟨0, h0, rfl⟩)
  refine go ?_
  refine RP.mono (Q := fun e σ => e = .exit 2 ∧ ∃ (A M : List Int) (w w' : SV Unit), Mk N es l A M ∧ closedE es l M es.length ∧ σ = [(1, ints l), (2, gbx N es), (5, ow A), (8, iv M.length), (55, w')]) ?_ ?_
  case refine_2 =>
    rintro e σ ⟨rfl, A, M, w, w', hM, hcl, rfl⟩
    simp only [inBlock_exit, if_true, thenR_normal]
    have hML := nodup_len hM.nd hM.sub
    have hans : b = decide (M.length = l.length) := by
      rw [Bool.eq_iff_iff, hb, decide_eq_true_iff]
      constructor
      · intro h
        refine Nat.le_antisymm hML (nodup_len hn fun v hv => (h.2.2.2.2 v hv).closed hM.fst ?_)
        intro x hx c hc hcl'
        rcases hc with hc | hc
        · obtain ⟨j, hj, e1, e2⟩ := mem_ent.1 hc
          have := hcl j hj
          rw [e1, e2] at this
          exact (this (hM.sub hx) hcl').1 hx
        · obtain ⟨j, hj, e1, e2⟩ := mem_ent.1 hc
          have := hcl j hj
          rw [e1, e2] at this
          exact (this hcl' (hM.sub hx)).2 hx
      · intro h
        exact ⟨hR, h0, hn, fun i hi => hin _ (mem_nth.2 ⟨i, hi, rfl⟩), fun v hv => hM.reach v (full_of_len hM.nd hM.sub (by omega) hv)⟩
    rw [hans] at hQ
    refine go ?_
    show Q .ret _; refine fin_ret hQ rfl ?_
    rfl
  apply rp_loop (fun k σ => ∃ (A M : List Int) (ch : Bool), Mk N es l A M ∧ (ch = false → closedE es l M es.length) ∧ k = 2 * (l.length - M.length) + (if ch then 1 else 0) ∧ (σ = [(1, ints l), (2, gbx N es), (5, ow A), (8, iv M.length), (9, bv ch)] ∨ ∃ w w' w2 w3 : SV Unit, σ = [(1, ints l), (2, gbx N es), (5, ow A), (8, iv M.length), (9, bv ch), (57, w), (58, w'), (59, w2), (60, w3)])) (2 * (l.length - 1) + 1)
  · refine ⟨_, [nth l 0], true, ?_, (fun h => by cases h), rfl, .inl rfl⟩
    refine ⟨by simpa using hA, by simp, by intro x hx; rw [List.mem_singleton.1 hx]; exact mem_nth.2 ⟨0, h0, rfl⟩, by simp, by intro x hx; rw [List.mem_singleton.1 hx]; exact .base, ?_⟩
    intro x hx
    rw [nth_set (by omega), hv x hx]
    by_cases hx2 : (nth l 0).toNat = x
    · rw [if_pos hx2, if_pos (List.mem_singleton.2 (by omega))]
    · rw [if_neg hx2, if_neg (c := (x : Int) ∈ [nth l 0]) (by rw [List.mem_singleton]; omega)]
  clear hA hv
  rintro k σ ⟨A, M, ch, hM, hch, rfl, hσ⟩
  apply rp_seq
  refine RP.mono (Q := fun e σ => σ = [(1, ints l), (2, gbx N es), (5, ow A), (8, iv M.length), (55, bv ch)] ∧ ((e = .normal ∧ ch = true) ∨ (e = .exit 2 ∧ ch = false))) ?_ ?_
  · cases ch with
    | false =>
      rcases hσ with rfl | ⟨w, w', w2, w3, rfl⟩
      all_goals
        refine go ?_
        exact ⟨rfl, .inr ⟨rfl, rfl⟩⟩
    | true =>
      rcases hσ with rfl | ⟨w, w', w2, w3, rfl⟩
      all_goals
        refine go ?_
        exact ⟨rfl, .inl ⟨rfl, rfl⟩⟩
  clear hσ
  rintro e σ ⟨rfl, ⟨rfl, rfl⟩ | ⟨rfl, rfl⟩⟩
  case inr => exact ⟨rfl, A, M, bv false, _, hM, hch rfl, rfl⟩
  simp only [thenR_normal]
  refine go ?_
  refine RP.mono (Q := fun e σ => e = .exit 4 ∧ ∃ (A' M' : List Int) (ch : Bool) (w w' w'' w3 : SV Unit), Mk N es l A' M' ∧ M.length ≤ M'.length ∧ (ch = true → M.length < M'.length) ∧ (ch = false → closedE es l M' es.length) ∧ σ = [(1, ints l), (2, gbx N es), (5, ow A'), (8, iv M'.length), (9, bv ch), (57, w), (58, w'), (59, w''), (60, w3)]) ?_ ?_
  case refine_2 =>
    rintro e σ ⟨rfl, A', M', ch, w, w', w2, w3, hM', hle, hlt, hcl, rfl⟩
    have hML := nodup_len hM'.nd hM'.sub
    show ∃ k', k' < _ ∧ _
    refine ⟨_, ?_, A', M', ch, hM', hcl, rfl, .inr ⟨w, w', w2, w3, rfl⟩⟩
    cases ch with
    | false => simp; omega
    | true => have := hlt rfl; simp; omega
  apply rp_loop (fun k σ => ∃ (i : Nat) (A' M' : List Int) (ch : Bool), i ≤ es.length ∧ k = es.length - i ∧ Mk N es l A' M' ∧ M.length ≤ M'.length ∧ (ch = true → M.length < M'.length) ∧ (ch = false → closedE es l M' i) ∧
    σ = [(1, ints l), (2, gbx N es), (5, ow A'), (8, iv M'.length), (9, bv ch), (57, ⟨.one, [.c (.sl false 2 () (EL es))]⟩), (58, iv es.length), (59, iv i)]) es.length
  · exact ⟨0, A, M, false, by omega, by omega, hM, Nat.le_refl _, (fun h => by cases h), (fun _ j hj => absurd hj (by omega)), rfl⟩
  rintro k σ ⟨i, A', M', ch, hi, rfl, hM', hle, hlt, hcl, rfl⟩
  have hML := nodup_len hM'.nd hM'.sub
  by_cases hil : i < es.length
  case neg =>
    refine go ?_
    refine ⟨rfl, A', M', ch, _, _, _, _, hM', hle, hlt, fun h j hj => hcl h j (by omega), rfl⟩
  have hmem : ((ent es i).1, (ent es i).2) ∈ es := mem_ent.2 ⟨i, hil, rfl, rfl⟩
  have hr := hR.mem hmem
  have hp : 0 ≤ (ent es i).1 ∧ (ent es i).1 < (N : Int) := by omega
  have hq : 0 ≤ (ent es i).2 ∧ (ent es i).2 < (N : Int) := by omega
  obtain ⟨p2, p1, p0, p3⟩ := hM'.two hp
  obtain ⟨q2, q1, q0, q3⟩ := hM'.two hq
  have hAl := hM'.len
  refine go ?_
  by_cases hit : nth A' (ent es i).1.toNat + nth A' (ent es i).2.toNat = 3
  case neg =>
    have hcl' : ch = false → closedE es l M' (i + 1) := by
      intro h j hj hjl hjl'
      rcases Nat.lt_succ_iff_lt_or_eq.1 hj with hj | rfl
      · exact hcl h j hj hjl hjl'
      · have e1 : nth A' (ent es j).1.toNat ≠ 0 := fun h => (p0.1 h) hjl
        have e2 : nth A' (ent es j).2.toNat ≠ 0 := fun h => (q0.1 h) hjl'
        rw [← p2, ← q2]
        omega
    refine go ?_
    exact nxt (es.length - (i + 1)) (by omega) ⟨i + 1, A', M', ch, by omega, by omega, hM', hle, hlt, hcl', rfl⟩
  have hpq : nth A' (ent es i).1.toNat = 1 ∧ nth A' (ent es i).2.toNat = 2 ∨ nth A' (ent es i).1.toNat = 2 ∧ nth A' (ent es i).2.toNat = 1 := by omega
  have hpo : 0 < nth A' (ent es i).1.toNat := by omega
  have hqo : 0 < nth A' (ent es i).2.toNat := by omega
  clear p0 q0 p3 q3
  refine go ?_
  have hval : ∀ x : Nat, x < N → nth ((A'.set (ent es i).1.toNat 2).set (ent es i).2.toNat 2) x = if (x : Int) = (ent es i).1 ∨ (x : Int) = (ent es i).2 then 2 else nth A' x := by
    intro x hx
    rw [nth_set (by rw [List.length_set]; omega), nth_set (by omega)]
    by_cases e2 : (ent es i).2.toNat = x
    · rw [if_pos e2, if_pos (by omega)]
    · rw [if_neg e2]
      by_cases e1 : (ent es i).1.toNat = x
      · rw [if_pos e1, if_pos (by omega)]
      · rw [if_neg e1, if_neg (by omega)]
  have hnew : ∃ M'' : List Int, Mk N es l ((A'.set (ent es i).1.toNat 2).set (ent es i).2.toNat 2) M'' ∧ M''.length = M'.length + 1 := by
    rcases hpq with ⟨e1, e2⟩ | ⟨e1, e2⟩
    · refine ⟨_, hM'.hit (p := (ent es i).2) (q := (ent es i).1) (.inr hmem) (hM'.sub (q2.1 e2)) (p1.1 e1).1 hq hp (q2.1 e2) (p1.1 e1).2 (by simpa using hAl) ?_, by simp⟩
      intro x hx
      rw [hval x hx]
      by_cases e : (x : Int) = (ent es i).1 ∨ (x : Int) = (ent es i).2
      · rw [if_pos e, if_pos e.symm]
      · rw [if_neg e, if_neg (fun h => e h.symm)]
    · exact ⟨_, hM'.hit (p := (ent es i).1) (q := (ent es i).2) (.inl hmem) (hM'.sub (p2.1 e1)) (q1.1 e2).1 hp hq (p2.1 e1) (q1.1 e2).2 (by simpa using hAl) hval, by simp⟩
  obtain ⟨M'', hM'', hMl⟩ := hnew
  refine go ?_
  refine nxt (es.length - (i + 1)) (by omega) ⟨i + 1, _, M'', true, by omega, by omega, hM'', by omega, fun _ => by omega, (fun h => by cases h), ?_⟩
  rw [hMl]
  simp
noncomputable def spec16 : Spec := spec2 asGr asInts fun g l => when (l.length ≤ 17592186043904) (bv (wholeB g.1 g.2 l))
theorem ok16 (h33 : SpecOk 33 spec33) : SpecOk 16 spec16 := by
  intro us r h
  obtain ⟨x, y, g, l, rfl, hg, hp, h⟩ := spec2_eq h
  obtain ⟨hl, rfl⟩ := when_eq h
  rw [asGr_eq hg, asInts_eq hp]
  exact goodBy2 (ext_ok (ext_ok (ext_ok (ext_ok env0_ok ok32) h33) ok36) ok37) Try.func16 rfl (Nat.le_of_ble_eq_true rfl) (by decide) (w16 g.1 g.2 l hl _ (wholeB_iff g.1 g.2 l))
@[simp] theorem s16 (n : Int) (es : List (Int × Int)) (p : List Int) (h : p.length ≤ 17592186043904) : spec16 [gr n es, ints p] = some (bv (wholeB n es p)) := by
  unfold spec16; rw [spec2_v (asGr_gr n es) (asInts_ints p)]; exact when_pos _ h
@[simp] theorem call16 {E : Env} {σ : St Unit} {t : Nat} {l : List Operand} : effCall Try.prog E ΩU σ t 16 l = callO E 16 t (argsOf Try.prog ΩU σ [24, 25] l) := eff_call Try.func16 Try.params16
end Go.Proofs.Ytngglgkemonibaa.L
