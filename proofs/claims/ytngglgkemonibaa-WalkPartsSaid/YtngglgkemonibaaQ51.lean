/- T9: the law WalkParts. -/
import Derived.Test.YtngglgkemonibaaQ46
import Derived.Test.YtngglgkemonibaaQ50
set_option linter.unusedVariables false
set_option linter.unusedSimpArgs false
set_option linter.unnecessarySimpa false
namespace Go.Proofs.Ytngglgkemonibaa.L
open Go Go.RowKit Go.Proofs.Ytngglgkemonibaa.B
set_option maxRecDepth 100000
set_option maxHeartbeats 4000000
theorem Reach.mem {es : List (Int × Int)} {l : List Int} {a b : Int} (h : Reach es l a b) (ha : a ∈ l) : b ∈ l := by
  cases h with
  | base => exact ha
  | step _ _ h => exact h
theorem Reach.trans {es : List (Int × Int)} {l : List Int} {a b c : Int} (h : Reach es l a b) (k : Reach es l b c) : Reach es l a c := by
  induction k with
  | base => exact h
  | step _ h1 h2 ih => exact ih.step h1 h2
theorem Reach.symm {es : List (Int × Int)} {l : List Int} {a b : Int} (h : Reach es l a b) (ha : a ∈ l) : Reach es l b a := by
  induction h with
  | base => exact .base
  | step h0 h1 h2 ih => exact (Reach.base.step h1.symm (h0.mem ha)).trans ih
theorem Reach.mono {es : List (Int × Int)} {l m : List Int} {a b : Int} (h : Reach es l a b) (hs : l ⊆ m) : Reach es m a b := by
  induction h with
  | base => exact .base
  | step _ h1 h2 ih => exact ih.step h1 (hs h2)
theorem nth_zero_mem {l : List Int} (h : 0 < l.length) : nth l 0 ∈ l := mem_nth.2 ⟨0, h, rfl⟩
/-- Whole, by any of its vertices. -/
theorem whole_of {n : Int} {es : List (Int × Int)} {l : List Int} (hR : RightG n es) (hn : l.Nodup) (hr : ∀ x ∈ l, 0 ≤ x ∧ x < n) {x : Int} (hx : x ∈ l) (h : ∀ v ∈ l, Reach es l x v) : WholeG n es l := by
  have h0 : 0 < l.length := List.length_pos_of_mem hx
  refine ⟨hR, h0, hn, fun i hi => hr _ (mem_nth.2 ⟨i, hi, rfl⟩), fun v hv => ?_⟩
  exact ((h _ (nth_zero_mem h0)).symm hx).trans (h v hv)
theorem WholeG.all {n : Int} {es : List (Int × Int)} {l : List Int} (h : WholeG n es l) : (∀ x ∈ l, 0 ≤ x ∧ x < n) ∧ ∀ x ∈ l, ∀ v ∈ l, Reach es l x v := by
  obtain ⟨_, h0, _, h1, h2⟩ := h
  refine ⟨fun x hx => ?_, fun x hx v hv => ((h2 x hx).symm (nth_zero_mem h0)).trans (h2 v hv)⟩
  obtain ⟨i, hi, rfl⟩ := mem_nth.1 hx
  exact h1 i hi
theorem whole_more {n : Int} {es : List (Int × Int)} {l : List Int} (h : WholeG n es l) {x y : Int} (hx : x ∈ l) (hy : y ∉ l) (ha : Adj es x y) : WholeG n es (y :: l) := by
  obtain ⟨hr, hall⟩ := h.all
  have hg : HasG n es x y := ⟨h.1, ha⟩
  refine whole_of h.1 (List.nodup_cons.2 ⟨hy, h.2.2.1⟩) (fun v hv => ?_) (x := x) (by simp [hx]) (fun v hv => ?_)
  · rcases List.mem_cons.1 hv with rfl | hv
    · have := hg.range; omega
    · exact hr v hv
  · rcases List.mem_cons.1 hv with rfl | hv
    · exact Reach.base.step ha (by simp)
    · exact (hall x hx v hv).mono (fun z hz => by simp [hz])
theorem whole_both {n : Int} {es : List (Int × Int)} {a b : List Int} (ha : WholeG n es a) (hb : WholeG n es b) {x : Int} (hxa : x ∈ a) (hxb : x ∈ b) : WholeG n es (a ++ b.filter fun v => decide (v ∉ a)) := by
  obtain ⟨hra, hall⟩ := ha.all
  obtain ⟨hrb, hbll⟩ := hb.all
  have hsub : b ⊆ a ++ b.filter fun v => decide (v ∉ a) := by
    intro v hv
    by_cases h : v ∈ a
    · exact List.mem_append.2 (.inl h)
    · exact List.mem_append.2 (.inr (List.mem_filter.2 ⟨hv, by simpa using h⟩))
  refine whole_of ha.1 ?_ (fun v hv => ?_) (x := x) (List.mem_append.2 (.inl hxa)) (fun v hv => ?_)
  · rw [List.nodup_append]
    refine ⟨ha.2.2.1, hb.2.2.1.sublist (List.filter_sublist), fun u hu v hv => ?_⟩
    have := (List.mem_filter.1 hv).2
    simp only [decide_eq_true_eq] at this
    exact fun e => this (e ▸ hu)
  · rcases List.mem_append.1 hv with hv | hv
    · exact hra v hv
    · exact hrb v (List.mem_filter.1 hv).1
  · rcases List.mem_append.1 hv with hv | hv
    · exact (hall x hxa v hv).mono (fun z hz => List.mem_append.2 (.inl hz))
    · exact (hbll x hxb v (List.mem_filter.1 hv).1).mono hsub
@[simp] theorem IL_cons1 (y : Int) (a : List Int) : ((.sc (.int .i64 y) : Cell Unit) :: IL a) = IL (y :: a) := rfl
@[simp] theorem s18_20 (n : Int) (l : List (Int × Int)) (hl : l.length ≤ 17592186043904) : spec18 [gr n l, iv 20] = some (gro (anyN n 20) (anyEs n 20 l)) := s18 n l 20 hl (by omega)
noncomputable abbrev E9 : Env := ext (ext (ext (ext (ext env0 11 spec11) 18 spec18) 16 spec16) 28 spec28) 26 spec26
theorem E9_ok : EnvOk Try.prog E9 := ext_ok (ext_ok (ext_ok (ext_ok (ext_ok env0_ok ok11) ok18) (ok16 ok33)) ok28) ok26
theorem w9 (n : Int) (l : List (Int × Int)) (a0 b0 : List Int) (hl : l.length ≤ 17592186043904) (ha0 : a0.length ≤ 17592186043904) (hb0 : b0.length ≤ 17592186043904) : ∃ c, Try.f9.body = some c ∧ RP (regOf Try.prog E9 119 u9) c (argsSt 0 [gr n l, ints a0, ints b0]) (endsAs Try.prog Try.f9 (bv true)) := by
  refine ⟨_, rfl, ?_⟩
  generalize hQ : endsAs Try.prog Try.f9 (bv true) = Q
  simp only [argsSt]
  repeat (first | (show RP _ (.seq (.region _ _ false) _) _ _; refine gs ?_) | (show RP _ (.seq (.region _ _ true) _) _ _; first | refine gD ?_ | refine gW ?_ | refine gm ?_) | (show RP _ (.cond _ _ _) _ _; first | refine gT ?_ | refine gF ?_) | apply gskip | apply rp_ret | apply rp_exit | apply rp_skip | apply rp_block | (show RP _ (.region _ _ false) _ _; refine ge ?_) | (show RP _ (.region _ _ true) _ _; first | refine gG ?_ | refine gV ?_ | refine gn ?_) | apply rp_seq)
  have h1 : (a0.take (min a0.length 20)).length ≤ 20 := by rw [List.length_take]; omega
  have h2 : (b0.take (min b0.length 20)).length ≤ 20 := by rw [List.length_take]; omega
  have hR := any_right n (most := 20) (by omega) l
  generalize a0.take (min a0.length 20) = a at *
  generalize b0.take (min b0.length 20) = b at *
  generalize anyEs n 20 l = es at *
  generalize anyN n 20 = N at *
  clear ha0 hb0 hl a0 b0 l n
  have hes : es.length ≤ 4000 := hR.1.2.2
  repeat (first | (show RP _ (.seq (.region _ _ false) _) _ _; refine gs ?_) | (show RP _ (.seq (.region _ _ true) _) _ _; first | refine gD ?_ | refine gW ?_ | refine gm ?_) | (show RP _ (.cond _ _ _) _ _; first | refine gT ?_ | refine gF ?_) | apply gskip | apply rp_ret | apply rp_exit | apply rp_skip | apply rp_block | (show RP _ (.region _ _ false) _ _; refine ge ?_) | (show RP _ (.region _ _ true) _ _; first | refine gG ?_ | refine gV ?_ | refine gn ?_) | apply rp_seq)
  cases hWa : wholeB N es a with
  | false =>
    repeat (first | (show RP _ (.seq (.region _ _ false) _) _ _; refine gs ?_) | (show RP _ (.seq (.region _ _ true) _) _ _; first | refine gD ?_ | refine gW ?_ | refine gm ?_) | (show RP _ (.cond _ _ _) _ _; first | refine gT ?_ | refine gF ?_) | apply gskip | apply rp_ret | apply rp_exit | apply rp_skip | apply rp_block | (show RP _ (.region _ _ false) _ _; refine ge ?_) | (show RP _ (.region _ _ true) _ _; first | refine gG ?_ | refine gV ?_ | refine gn ?_) | apply rp_seq)
    show Q .ret _; refine fin_ret hQ rfl ?_
    rfl
  | true =>
    have hA := (wholeB_iff _ _ _).1 hWa
    repeat (first | (show RP _ (.seq (.region _ _ false) _) _ _; refine gs ?_) | (show RP _ (.seq (.region _ _ true) _) _ _; first | refine gD ?_ | refine gW ?_ | refine gm ?_) | (show RP _ (.cond _ _ _) _ _; first | refine gT ?_ | refine gF ?_) | apply gskip | apply rp_ret | apply rp_exit | apply rp_skip | apply rp_block | (show RP _ (.region _ _ false) _ _; refine ge ?_) | (show RP _ (.region _ _ true) _ _; first | refine gG ?_ | refine gV ?_ | refine gn ?_) | apply rp_seq)
    refine RP.mono (Q := fun e σ => e = .exit 0 ∧ σ = [(1, ow a), (2, ints b), (7, bv true), (8, gbo N es), (9, iv a.length), (38, bv false)]) ?_ ?_
    · apply rp_loop (fun k σ => ∃ i : Nat, i ≤ a.length ∧ k = a.length - i ∧ σ = [(1, ow a), (2, ints b), (7, bv true), (8, gbo N es), (9, iv i)]) a.length
      · exact ⟨0, by omega, by omega, rfl⟩
      rintro k σ ⟨i, hi, rfl, rfl⟩
      by_cases hil : i < a.length
      case neg =>
        obtain rfl : i = a.length := by omega
        repeat (first | (show RP _ (.seq (.region _ _ false) _) _ _; refine gs ?_) | (show RP _ (.seq (.region _ _ true) _) _ _; first | refine gD ?_ | refine gW ?_ | refine gm ?_) | (show RP _ (.cond _ _ _) _ _; first | refine gT ?_ | refine gF ?_) | apply gskip | apply rp_ret | apply rp_exit | apply rp_skip | apply rp_block | (show RP _ (.region _ _ false) _ _; refine ge ?_) | (show RP _ (.region _ _ true) _ _; first | refine gG ?_ | refine gV ?_ | refine gn ?_) | apply rp_seq)
        exact ⟨rfl, rfl⟩
      repeat (first | (show RP _ (.seq (.region _ _ false) _) _ _; refine gs ?_) | (show RP _ (.seq (.region _ _ true) _) _ _; first | refine gD ?_ | refine gW ?_ | refine gm ?_) | (show RP _ (.cond _ _ _) _ _; first | refine gT ?_ | refine gF ?_) | apply gskip | apply rp_ret | apply rp_exit | apply rp_skip | apply rp_block | (show RP _ (.region _ _ false) _ _; refine ge ?_) | (show RP _ (.region _ _ true) _ _; first | refine gG ?_ | refine gV ?_ | refine gn ?_) | apply rp_seq)
      have hnl := len_nearP N es (nth a i)
      have hnm : ∀ x, x ∈ nearP N es (nth a i) ↔ Adj es (nth a i) x := fun x => mem_nearP hR
      have hxa : nth a i ∈ a := mem_nth.2 ⟨i, hil, rfl⟩
      generalize nearP N es (nth a i) = m at *
      refine RP.mono (Q := fun e σ => e = .exit 2 ∧ σ = [(1, ow a), (2, ints b), (7, bv true), (8, gbo N es), (9, iv i), (10, ow m), (11, iv m.length), (50, bv false)]) ?_ ?_
      · apply rp_loop (fun k σ => ∃ j : Nat, j ≤ m.length ∧ k = m.length - j ∧ σ = [(1, ow a), (2, ints b), (7, bv true), (8, gbo N es), (9, iv i), (10, ow m), (11, iv j)]) m.length
        · exact ⟨0, by omega, by omega, rfl⟩
        rintro k σ ⟨j, hj, rfl, rfl⟩
        by_cases hjl : j < m.length
        case neg =>
          obtain rfl : j = m.length := by omega
          repeat (first | (show RP _ (.seq (.region _ _ false) _) _ _; refine gs ?_) | (show RP _ (.seq (.region _ _ true) _) _ _; first | refine gD ?_ | refine gW ?_ | refine gm ?_) | (show RP _ (.cond _ _ _) _ _; first | refine gT ?_ | refine gF ?_) | apply gskip | apply rp_ret | apply rp_exit | apply rp_skip | apply rp_block | (show RP _ (.region _ _ false) _ _; refine ge ?_) | (show RP _ (.region _ _ true) _ _; first | refine gG ?_ | refine gV ?_ | refine gn ?_) | apply rp_seq)
          exact ⟨rfl, rfl⟩
        have hadj := (hnm (nth m j)).1 (mem_nth.2 ⟨j, hjl, rfl⟩)
        repeat (first | (show RP _ (.seq (.region _ _ false) _) _ _; refine gs ?_) | (show RP _ (.seq (.region _ _ true) _) _ _; first | refine gD ?_ | refine gW ?_ | refine gm ?_) | (show RP _ (.cond _ _ _) _ _; first | refine gT ?_ | refine gF ?_) | apply gskip | apply rp_ret | apply rp_exit | apply rp_skip | apply rp_block | (show RP _ (.region _ _ false) _ _; refine ge ?_) | (show RP _ (.region _ _ true) _ _; first | refine gG ?_ | refine gV ?_ | refine gn ?_) | apply rp_seq)
        by_cases hya : nth m j ∈ a
        · repeat (first | (show RP _ (.seq (.region _ _ false) _) _ _; refine gs ?_) | (show RP _ (.seq (.region _ _ true) _) _ _; first | refine gD ?_ | refine gW ?_ | refine gm ?_) | (show RP _ (.cond _ _ _) _ _; first | refine gT ?_ | refine gF ?_) | apply gskip | apply rp_ret | apply rp_exit | apply rp_skip | apply rp_block | (show RP _ (.region _ _ false) _ _; refine ge ?_) | (show RP _ (.region _ _ true) _ _; first | refine gG ?_ | refine gV ?_ | refine gn ?_) | apply rp_seq)
          exact nxt (m.length - (j + 1)) (by omega) ⟨j + 1, by omega, by omega, rfl⟩
        · have hW : wholeB N es (nth m j :: a) = true := (wholeB_iff _ _ _).2 (whole_more hA hxa hya hadj)
          have hal : (nth m j :: a).length ≤ 21 := by rw [List.length_cons]; omega
          repeat (first | (show RP _ (.seq (.region _ _ false) _) _ _; refine gs ?_) | (show RP _ (.seq (.region _ _ true) _) _ _; first | refine gD ?_ | refine gW ?_ | refine gm ?_) | (show RP _ (.cond _ _ _) _ _; first | refine gT ?_ | refine gF ?_) | apply gskip | apply rp_ret | apply rp_exit | apply rp_skip | apply rp_block | (show RP _ (.region _ _ false) _ _; refine ge ?_) | (show RP _ (.region _ _ true) _ _; first | refine gG ?_ | refine gV ?_ | refine gn ?_) | apply rp_seq)
          rw [hW]
          repeat (first | (show RP _ (.seq (.region _ _ false) _) _ _; refine gs ?_) | (show RP _ (.seq (.region _ _ true) _) _ _; first | refine gD ?_ | refine gW ?_ | refine gm ?_) | (show RP _ (.cond _ _ _) _ _; first | refine gT ?_ | refine gF ?_) | apply gskip | apply rp_ret | apply rp_exit | apply rp_skip | apply rp_block | (show RP _ (.region _ _ false) _ _; refine ge ?_) | (show RP _ (.region _ _ true) _ _; first | refine gG ?_ | refine gV ?_ | refine gn ?_) | apply rp_seq)
          exact nxt (m.length - (j + 1)) (by omega) ⟨j + 1, by omega, by omega, rfl⟩
      rintro e σ ⟨rfl, rfl⟩
      simp only [inBlock_exit, if_true, thenR_normal]
      repeat (first | (show RP _ (.seq (.region _ _ false) _) _ _; refine gs ?_) | (show RP _ (.seq (.region _ _ true) _) _ _; first | refine gD ?_ | refine gW ?_ | refine gm ?_) | (show RP _ (.cond _ _ _) _ _; first | refine gT ?_ | refine gF ?_) | apply gskip | apply rp_ret | apply rp_exit | apply rp_skip | apply rp_block | (show RP _ (.region _ _ false) _ _; refine ge ?_) | (show RP _ (.region _ _ true) _ _; first | refine gG ?_ | refine gV ?_ | refine gn ?_) | apply rp_seq)
      exact nxt (a.length - (i + 1)) (by omega) ⟨i + 1, by omega, by omega, rfl⟩
    rintro e σ ⟨rfl, rfl⟩
    simp only [inBlock_exit, if_true, thenR_normal]
    repeat (first | (show RP _ (.seq (.region _ _ false) _) _ _; refine gs ?_) | (show RP _ (.seq (.region _ _ true) _) _ _; first | refine gD ?_ | refine gW ?_ | refine gm ?_) | (show RP _ (.cond _ _ _) _ _; first | refine gT ?_ | refine gF ?_) | apply gskip | apply rp_ret | apply rp_exit | apply rp_skip | apply rp_block | (show RP _ (.region _ _ false) _ _; refine ge ?_) | (show RP _ (.region _ _ true) _ _; first | refine gG ?_ | refine gV ?_ | refine gn ?_) | apply rp_seq)
    cases hWb : wholeB N es b with
    | false =>
      repeat (first | (show RP _ (.seq (.region _ _ false) _) _ _; refine gs ?_) | (show RP _ (.seq (.region _ _ true) _) _ _; first | refine gD ?_ | refine gW ?_ | refine gm ?_) | (show RP _ (.cond _ _ _) _ _; first | refine gT ?_ | refine gF ?_) | apply gskip | apply rp_ret | apply rp_exit | apply rp_skip | apply rp_block | (show RP _ (.region _ _ false) _ _; refine ge ?_) | (show RP _ (.region _ _ true) _ _; first | refine gG ?_ | refine gV ?_ | refine gn ?_) | apply rp_seq)
      show Q .ret _; refine fin_ret hQ rfl ?_
      rfl
    | true =>
      have hB := (wholeB_iff _ _ _).1 hWb
      repeat (first | (show RP _ (.seq (.region _ _ false) _) _ _; refine gs ?_) | (show RP _ (.seq (.region _ _ true) _) _ _; first | refine gD ?_ | refine gW ?_ | refine gm ?_) | (show RP _ (.cond _ _ _) _ _; first | refine gT ?_ | refine gF ?_) | apply gskip | apply rp_ret | apply rp_exit | apply rp_skip | apply rp_block | (show RP _ (.region _ _ false) _ _; refine ge ?_) | (show RP _ (.region _ _ true) _ _; first | refine gG ?_ | refine gV ?_ | refine gn ?_) | apply rp_seq)
      refine RP.mono (Q := fun e σ => e = .exit 4 ∧ ∃ M : Bool, (M = true → ∃ v ∈ b, v ∈ a) ∧ σ = [(1, ow a), (2, ints b), (7, bv true), (8, gbo N es), (12, bv M), (13, ow (a ++ b.filter fun v => decide (v ∉ a))), (14, iv b.length), (83, bv false)]) ?_ ?_
      · apply rp_loop (fun k σ => ∃ (i : Nat) (M : Bool), i ≤ b.length ∧ k = b.length - i ∧ (M = true → ∃ v ∈ b, v ∈ a) ∧ σ = [(1, ow a), (2, ints b), (7, bv true), (8, gbo N es), (12, bv M), (13, ow (a ++ (b.take i).filter fun v => decide (v ∉ a))), (14, iv i)]) b.length
        · exact ⟨0, false, by omega, by omega, (fun h => by cases h), by simp⟩
        rintro k σ ⟨i, M, hi, rfl, hM, rfl⟩
        by_cases hil : i < b.length
        case neg =>
          obtain rfl : i = b.length := by omega
          rw [List.take_length]
          generalize a ++ b.filter (fun v => decide (v ∉ a)) = A at *
          repeat (first | (show RP _ (.seq (.region _ _ false) _) _ _; refine gs ?_) | (show RP _ (.seq (.region _ _ true) _) _ _; first | refine gD ?_ | refine gW ?_ | refine gm ?_) | (show RP _ (.cond _ _ _) _ _; first | refine gT ?_ | refine gF ?_) | apply gskip | apply rp_ret | apply rp_exit | apply rp_skip | apply rp_block | (show RP _ (.region _ _ false) _ _; refine ge ?_) | (show RP _ (.region _ _ true) _ _; first | refine gG ?_ | refine gV ?_ | refine gn ?_) | apply rp_seq)
          exact ⟨rfl, M, hM, rfl⟩
        have hst : a ++ (b.take (i + 1)).filter (fun v => decide (v ∉ a)) = (a ++ (b.take i).filter fun v => decide (v ∉ a)) ++ (if nth b i ∈ a then [] else [nth b i]) := by
          rw [nth_take hil, List.filter_append, List.append_assoc]
          congr 2
          by_cases h : nth b i ∈ a <;> simp [h]
        have hal : (a ++ (b.take i).filter fun v => decide (v ∉ a)).length ≤ 40 := by
          rw [List.length_append]
          have := List.length_filter_le (fun v => decide (v ∉ a)) (b.take i)
          rw [List.length_take] at this
          omega
        generalize a ++ (b.take i).filter (fun v => decide (v ∉ a)) = A at *
        have hxb : nth b i ∈ b := mem_nth.2 ⟨i, hil, rfl⟩
        by_cases hya : nth b i ∈ a
        · rw [if_pos hya, List.append_nil] at hst
          cases M with
          | false =>
            repeat (first | (show RP _ (.seq (.region _ _ false) _) _ _; refine gs ?_) | (show RP _ (.seq (.region _ _ true) _) _ _; first | refine gD ?_ | refine gW ?_ | refine gm ?_) | (show RP _ (.cond _ _ _) _ _; first | refine gT ?_ | refine gF ?_) | apply gskip | apply rp_ret | apply rp_exit | apply rp_skip | apply rp_block | (show RP _ (.region _ _ false) _ _; refine ge ?_) | (show RP _ (.region _ _ true) _ _; first | refine gG ?_ | refine gV ?_ | refine gn ?_) | apply rp_seq)
            exact nxt (b.length - (i + 1)) (by omega) ⟨i + 1, true, by omega, by omega, fun _ => ⟨_, hxb, hya⟩, by rw [hst]; simp⟩
          | true =>
            repeat (first | (show RP _ (.seq (.region _ _ false) _) _ _; refine gs ?_) | (show RP _ (.seq (.region _ _ true) _) _ _; first | refine gD ?_ | refine gW ?_ | refine gm ?_) | (show RP _ (.cond _ _ _) _ _; first | refine gT ?_ | refine gF ?_) | apply gskip | apply rp_ret | apply rp_exit | apply rp_skip | apply rp_block | (show RP _ (.region _ _ false) _ _; refine ge ?_) | (show RP _ (.region _ _ true) _ _; first | refine gG ?_ | refine gV ?_ | refine gn ?_) | apply rp_seq)
            exact nxt (b.length - (i + 1)) (by omega) ⟨i + 1, true, by omega, by omega, hM, by rw [hst]; simp⟩
        · rw [if_neg hya] at hst
          cases M with
          | false =>
            repeat (first | (show RP _ (.seq (.region _ _ false) _) _ _; refine gs ?_) | (show RP _ (.seq (.region _ _ true) _) _ _; first | refine gD ?_ | refine gW ?_ | refine gm ?_) | (show RP _ (.cond _ _ _) _ _; first | refine gT ?_ | refine gF ?_) | apply gskip | apply rp_ret | apply rp_exit | apply rp_skip | apply rp_block | (show RP _ (.region _ _ false) _ _; refine ge ?_) | (show RP _ (.region _ _ true) _ _; first | refine gG ?_ | refine gV ?_ | refine gn ?_) | apply rp_seq)
            exact nxt (b.length - (i + 1)) (by omega) ⟨i + 1, false, by omega, by omega, hM, by rw [hst]; simp⟩
          | true =>
            repeat (first | (show RP _ (.seq (.region _ _ false) _) _ _; refine gs ?_) | (show RP _ (.seq (.region _ _ true) _) _ _; first | refine gD ?_ | refine gW ?_ | refine gm ?_) | (show RP _ (.cond _ _ _) _ _; first | refine gT ?_ | refine gF ?_) | apply gskip | apply rp_ret | apply rp_exit | apply rp_skip | apply rp_block | (show RP _ (.region _ _ false) _ _; refine ge ?_) | (show RP _ (.region _ _ true) _ _; first | refine gG ?_ | refine gV ?_ | refine gn ?_) | apply rp_seq)
            exact nxt (b.length - (i + 1)) (by omega) ⟨i + 1, true, by omega, by omega, hM, by rw [hst]; simp⟩
      rintro e σ ⟨rfl, M, hM, rfl⟩
      simp only [inBlock_exit, if_true, thenR_normal]
      cases M with
      | false =>
        repeat (first | (show RP _ (.seq (.region _ _ false) _) _ _; refine gs ?_) | (show RP _ (.seq (.region _ _ true) _) _ _; first | refine gD ?_ | refine gW ?_ | refine gm ?_) | (show RP _ (.cond _ _ _) _ _; first | refine gT ?_ | refine gF ?_) | apply gskip | apply rp_ret | apply rp_exit | apply rp_skip | apply rp_block | (show RP _ (.region _ _ false) _ _; refine ge ?_) | (show RP _ (.region _ _ true) _ _; first | refine gG ?_ | refine gV ?_ | refine gn ?_) | apply rp_seq)
        show Q .ret _; refine fin_ret hQ rfl ?_
        rfl
      | true =>
        obtain ⟨v, hvb, hva⟩ := hM rfl
        have hW : wholeB N es (a ++ b.filter fun v => decide (v ∉ a)) = true := (wholeB_iff _ _ _).2 (whole_both hA hB hva hvb)
        have hal : (a ++ b.filter fun v => decide (v ∉ a)).length ≤ 40 := by
          rw [List.length_append]
          have := List.length_filter_le (fun v => decide (v ∉ a)) b
          omega
        generalize a ++ b.filter (fun v => decide (v ∉ a)) = A at *
        repeat (first | (show RP _ (.seq (.region _ _ false) _) _ _; refine gs ?_) | (show RP _ (.seq (.region _ _ true) _) _ _; first | refine gD ?_ | refine gW ?_ | refine gm ?_) | (show RP _ (.cond _ _ _) _ _; first | refine gT ?_ | refine gF ?_) | apply gskip | apply rp_ret | apply rp_exit | apply rp_skip | apply rp_block | (show RP _ (.region _ _ false) _ _; refine ge ?_) | (show RP _ (.region _ _ true) _ _; first | refine gG ?_ | refine gV ?_ | refine gn ?_) | apply rp_seq)
        rw [hW]
        show Q .ret _; refine fin_ret hQ rfl ?_
        rfl
theorem good9 (n : Int) (l : List (Int × Int)) (a0 b0 : List Int) (hl : l.length ≤ 17592186043904) (ha0 : a0.length ≤ 17592186043904) (hb0 : b0.length ≤ 17592186043904) : Good Try.prog 9 [gr n l, ints a0, ints b0] (bv true) :=
  goodBy2 E9_ok Try.func9 rfl (Nat.le_of_ble_eq_true rfl) (by decide) (w9 n l a0 b0 hl ha0 hb0)
end Go.Proofs.Ytngglgkemonibaa.L
