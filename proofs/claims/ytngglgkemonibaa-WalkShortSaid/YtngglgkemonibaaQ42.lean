/- T17: carcanetref05.Whole. -/
import Derived.Test.YtngglgkemonibaaQ20
import Derived.Test.YtngglgkemonibaaQ19
set_option linter.unusedVariables false
set_option linter.unusedSimpArgs false
set_option linter.unnecessarySimpa false
namespace Go.Proofs.Ytngglgkemonibaa.L
open Go Go.RowKit
set_option maxRecDepth 100000
set_option maxHeartbeats 4000000
abbrev E17 : Env := ext (ext (ext (ext env0 34 spec34) 35 spec35) 38 spec38) 26 spec26
theorem E17_ok : EnvOk Try.prog E17 := ext_ok (ext_ok (ext_ok (ext_ok env0_ok ok34) ok35) ok38) ok26
theorem w17 (n : Int) (es : List (Int × Int)) (l : List Int) (hl : l.length ≤ 17592186043904) (b : Bool) (hb : b = true ↔ WholeG n es l) : ∃ c, Try.f17.body = some c ∧ RP (regOf Try.prog E17 92 t17) c (argsSt 0 [gr n es, ints l]) (endsAs Try.prog Try.f17 (bv b)) := by
  refine ⟨_, rfl, ?_⟩
  generalize hQ : endsAs Try.prog Try.f17 (bv b) = Q
  simp only [argsSt]
  by_cases hok : RightG n es ∧ 0 < l.length ∧ l.Nodup
  case neg =>
    have hans : b = false := by rw [Bool.eq_false_iff]; exact fun h => hok ⟨(hb.1 h).1, (hb.1 h).2.1, (hb.1 h).2.2.1⟩
    rw [hans] at hQ
    refine go ?_
    by_cases hR : RightG n es
    case neg =>
      refine go ?_
      show Q .ret _; refine fin_ret hQ rfl ?_
      rfl
    by_cases h0 : 0 < l.length
    · have hn : ¬ l.Nodup := fun h => hok ⟨hR, h0, h⟩
      have hne : ¬ l = [] := fun h => by rw [h] at h0; exact absurd h0 (by decide)
      refine go ?_
      show Q .ret _; refine fin_ret hQ rfl ?_
      rfl
    · have hne : l = [] := List.eq_nil_of_length_eq_zero (by omega)
      refine go ?_
      show Q .ret _; refine fin_ret hQ rfl ?_
      rfl
  obtain ⟨hR, h0, hn⟩ := hok
  have hne : ¬ l = [] := fun h => by rw [h] at h0; exact absurd h0 (by decide)
  have hlen : es.length ≤ 4000 := hR.1.2.2
  refine go ?_
  refine RP.mono (Q := fun e σ => (e = .ret ∧ b = false ∧ σ = [(4, bv false)]) ∨ (e = .exit 0 ∧ (∃ w w', σ = [(1, ints l), (2, gbx n es), (5, w), (26, w')]) ∧ ∀ i, i < l.length → 0 ≤ nth l i ∧ nth l i < n)) ?_ ?_
  · apply rp_loop (fun k σ => ∃ i : Nat, i ≤ l.length ∧ k = l.length - i ∧ σ = [(1, ints l), (2, gbx n es), (5, iv i)] ∧ ∀ j, j < i → 0 ≤ nth l j ∧ nth l j < n) l.length
    · exact ⟨0, by omega, by omega, rfl, by omega⟩
    rintro k σ ⟨i, hi, rfl, rfl, hno⟩
    by_cases hil : i < l.length
    case neg =>
      refine go ?_
      exact .inr ⟨rfl, ⟨_, _, rfl⟩, fun j hj => hno j (by omega)⟩
    by_cases h1 : 0 ≤ nth l i ∧ nth l i < n
    · refine go ?_
      refine nxt (l.length - (i + 1)) (by omega) ⟨i + 1, by omega, by omega, rfl, fun j hj => ?_⟩
      rcases Nat.lt_succ_iff_lt_or_eq.1 hj with h | rfl
      · exact hno j h
      · exact h1
    · have hans : b = false := by rw [Bool.eq_false_iff]; exact fun h => h1 ((hb.1 h).2.2.2.1 i hil)
      rcases (by omega : nth l i < 0 ∨ (¬ nth l i < 0 ∧ n ≤ nth l i)) with h | ⟨h, h'⟩
      all_goals
        refine go ?_
        exact .inl ⟨rfl, hans, rfl⟩
  rintro e σ (⟨rfl, hb', rfl⟩ | ⟨rfl, ⟨w, w', rfl⟩, hin⟩)
  · rw [hb'] at hQ
    show Q .ret _; refine fin_ret hQ rfl ?_
    rfl
  simp only [inBlock_exit, if_true, thenR_normal]
  refine go ?_
  apply rp_loop (fun k σ => ∃ (i : Nat) (got : List Int), i ≤ got.length ∧ k = l.length - i ∧ got.Nodup ∧ got ⊆ l ∧ nth l 0 ∈ got ∧ (∀ x ∈ got, Reach es l (nth l 0) x) ∧ (∀ j, j < i → ∀ c, Adj es (nth got j) c → c ∈ l → c ∈ got) ∧
    σ = [(1, ints l), (2, gbx n es), (6, ow got), (7, iv i)]) l.length
  · exact ⟨0, [nth l 0], by simp, by omega, by simp, by intro x hx; rw [List.mem_singleton.1 hx]; exact mem_nth.2 ⟨0, h0, rfl⟩, by simp, by intro x hx; rw [List.mem_singleton.1 hx]; exact .base, by omega, rfl⟩
  rintro k σ ⟨i, got, hi, rfl, hnd, hsub, hfirst, hreach, hclosed, rfl⟩
  have hgl := nodup_len hnd hsub
  by_cases hil : i < got.length
  case neg =>
    have hcl : ∀ x ∈ got, ∀ c, Adj es x c → c ∈ l → c ∈ got := by
      intro x hx c hc hcl
      obtain ⟨j, hj, rfl⟩ := mem_nth.1 hx
      exact hclosed j (by omega) c hc hcl
    have hans : b = decide (got.length = l.length) := by
      rw [Bool.eq_iff_iff, hb, decide_eq_true_iff]
      constructor
      · intro h
        exact Nat.le_antisymm hgl (nodup_len hn fun v hv => (h.2.2.2.2 v hv).closed hfirst hcl)
      · intro h
        exact ⟨hR, h0, hn, hin, fun v hv => hreach v (full_of_len hnd hsub (by omega) hv)⟩
    rw [hans] at hQ
    refine go ?_
    show Q .ret _; refine fin_ret hQ rfl ?_
    rfl
  refine go ?_
  have hm := len_nearR n es (nth got i)
  have hmem : ∀ x, x ∈ nearR n es (nth got i) ↔ Adj es (nth got i) x := fun x => mem_nearR hR
  generalize nearR n es (nth got i) = m at *
  refine RP.mono (Q := fun e σ => e = .exit 4 ∧ ∃ (got' : List Int) (w w' w'' : SV Unit), got'.Nodup ∧ got' ⊆ l ∧ (∀ x ∈ got', Reach es l (nth l 0) x) ∧ (∃ ex, got' = got ++ ex) ∧ (∀ x ∈ m, x ∈ l → x ∈ got') ∧ σ = [(1, ints l), (2, gbx n es), (6, ow got'), (7, iv i), (8, w), (9, w'), (62, w'')]) ?_ ?_
  · apply rp_loop (fun k σ => ∃ (k' : Nat) (got' : List Int), k' ≤ m.length ∧ k = m.length - k' ∧ got'.Nodup ∧ got' ⊆ l ∧ (∀ x ∈ got', Reach es l (nth l 0) x) ∧ (∃ ex, got' = got ++ ex) ∧ (∀ j, j < k' → nth m j ∈ l → nth m j ∈ got') ∧
      σ = [(1, ints l), (2, gbx n es), (6, ow got'), (7, iv i), (8, ow m), (9, iv k')]) m.length
    · exact ⟨0, got, by omega, by omega, hnd, hsub, hreach, ⟨[], by simp⟩, by omega, rfl⟩
    rintro k σ ⟨k', got', hk, rfl, hnd', hsub', hreach', ⟨ex, hex⟩, hdone, rfl⟩
    have hgl' := nodup_len hnd' hsub'
    by_cases hkl : k' < m.length
    case neg =>
      refine go ?_
      refine ⟨rfl, got', _, _, _, hnd', hsub', hreach', ⟨ex, hex⟩, ?_, rfl⟩
      intro x hx
      obtain ⟨j, hj, rfl⟩ := mem_nth.1 hx
      exact hdone j (by omega)
    by_cases h1 : nth m k' ∈ l
    case neg =>
      refine go ?_
      refine nxt (m.length - (k' + 1)) (by omega) ⟨k' + 1, got', by omega, by omega, hnd', hsub', hreach', ⟨ex, hex⟩, ?_, rfl⟩
      intro j hj hjl
      rcases Nat.lt_succ_iff_lt_or_eq.1 hj with h | rfl
      · exact hdone j h hjl
      · exact absurd hjl h1
    by_cases h2 : nth m k' ∈ got'
    · refine go ?_
      refine nxt (m.length - (k' + 1)) (by omega) ⟨k' + 1, got', by omega, by omega, hnd', hsub', hreach', ⟨ex, hex⟩, ?_, rfl⟩
      intro j hj hjl
      rcases Nat.lt_succ_iff_lt_or_eq.1 hj with h | rfl
      · exact hdone j h hjl
      · exact h2
    · refine go ?_
      refine nxt (m.length - (k' + 1)) (by omega) ⟨k' + 1, got' ++ [nth m k'], by omega, by omega, ?_, ?_, ?_, ⟨ex ++ [nth m k'], by rw [hex, List.append_assoc]⟩, ?_, rfl⟩
      · rw [List.nodup_append]
        exact ⟨hnd', by simp, fun a ha b hb => by rw [List.mem_singleton.1 hb]; exact fun e => h2 (e ▸ ha)⟩
      · intro x hx
        rcases List.mem_append.1 hx with hx | hx
        · exact hsub' hx
        · rw [List.mem_singleton.1 hx]; exact h1
      · intro x hx
        rcases List.mem_append.1 hx with hx | hx
        · exact hreach' x hx
        · rw [List.mem_singleton.1 hx]
          exact (hreach (nth got i) (mem_nth.2 ⟨i, hil, rfl⟩)).step ((hmem _).1 (mem_nth.2 ⟨k', hkl, rfl⟩)) h1
      · intro j hj hjl
        rcases Nat.lt_succ_iff_lt_or_eq.1 hj with h | rfl
        · exact List.mem_append.2 (.inl (hdone j h hjl))
        · simp
  rintro e σ ⟨rfl, got', w1, w2, w3, hnd', hsub', hreach', ⟨ex, hex⟩, hall, rfl⟩
  have hgl' := nodup_len hnd' hsub'
  simp only [inBlock_exit, if_true, thenR_normal]
  refine go ?_
  refine nxt (l.length - (i + 1)) (by omega) ⟨i + 1, got', by rw [hex]; simp; omega, by omega, hnd', hsub', by rw [hex]; exact List.mem_append.2 (.inl hfirst), hreach', ?_, rfl⟩
  intro j hj c hc hcl
  rw [hex, show nth (got ++ ex) j = nth got j by rw [nth_eq (by simp; omega), nth_eq (show j < got.length by omega), List.getElem_append_left (by omega)]] at hc
  rcases Nat.lt_succ_iff_lt_or_eq.1 hj with h | rfl
  · rw [hex]; exact List.mem_append.2 (.inl (hclosed j h c hc hcl))
  · exact hall c ((hmem c).2 hc) hcl
open Classical in
noncomputable def wholeB (n : Int) (es : List (Int × Int)) (l : List Int) : Bool := decide (WholeG n es l)
theorem wholeB_iff (n : Int) (es : List (Int × Int)) (l : List Int) : wholeB n es l = true ↔ WholeG n es l := by simp [wholeB]
noncomputable def spec17 : Spec := spec2 asGr asInts fun g l => when (l.length ≤ 17592186043904) (bv (wholeB g.1 g.2 l))
theorem ok17 : SpecOk 17 spec17 := by
  intro us r h
  obtain ⟨x, y, g, l, rfl, hg, hp, h⟩ := spec2_eq h
  obtain ⟨hl, rfl⟩ := when_eq h
  rw [asGr_eq hg, asInts_eq hp]
  exact goodBy E17_ok Try.func17 rfl (Nat.le_of_ble_eq_true rfl) (by decide) (w17 g.1 g.2 l hl _ (wholeB_iff g.1 g.2 l))
@[simp] theorem s17 (n : Int) (es : List (Int × Int)) (p : List Int) (h : p.length ≤ 17592186043904) : spec17 [gr n es, ints p] = some (bv (wholeB n es p)) := by
  unfold spec17; rw [spec2_v (asGr_gr n es) (asInts_ints p)]; exact when_pos _ h
@[simp] theorem call17 {E : Env} {σ : St Unit} {t : Nat} {l : List Operand} : effCall Try.prog E ΩU σ t 17 l = callO E 17 t (argsOf Try.prog ΩU σ [24, 25] l) := eff_call Try.func17 Try.params17
end Go.Proofs.Ytngglgkemonibaa.L
