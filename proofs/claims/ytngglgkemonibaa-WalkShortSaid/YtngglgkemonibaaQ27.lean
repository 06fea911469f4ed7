/- T20: walk.Route. T20b: walk.Route's contract. PRt7: a route is no longer than there are vertices. PRt6: what follows of routes: they exist, are paths without chords, each way on is one, turned round as long. -/
import Derived.Test.YtngglgkemonibaaQ12
import Derived.Test.YtngglgkemonibaaQ23
import Derived.Test.YtngglgkemonibaaQ25
import Derived.Test.YtngglgkemonibaaQ26
import Derived.Test.YtngglgkemonibaaQ24
set_option linter.unusedVariables false
set_option linter.unusedSimpArgs false
set_option linter.unnecessarySimpa false
namespace Go.Proofs.Ytngglgkemonibaa.L
open Go Go.RowKit
set_option maxRecDepth 100000
set_option maxHeartbeats 4000000
open Classical in
noncomputable def routeP (n : Int) (es : List (Int × Int)) (a b : Int) (away : List Int) : List Int :=
  if RightG n es ∧ 0 ≤ a ∧ 0 ≤ b ∧ a < n ∧ b < n ∧ a ∉ away ∧ b ∉ away then (if h : ∃ p, IsAns es away a b p then h.choose else []) else []
theorem routeP_eq {n : Int} {es : List (Int × Int)} {a b : Int} {away p : List Int} (h : RightG n es ∧ 0 ≤ a ∧ 0 ≤ b ∧ a < n ∧ b < n ∧ a ∉ away ∧ b ∉ away) (hp : IsAns es away a b p) : routeP n es a b away = p := by
  unfold routeP
  have he : ∃ p, IsAns es away a b p := ⟨p, hp⟩
  rw [if_pos h, dif_pos he]
  exact he.choose_spec.unique hp
theorem routeP_nil {n : Int} {es : List (Int × Int)} {a b : Int} {away : List Int} (h : ¬ (RightG n es ∧ 0 ≤ a ∧ 0 ≤ b ∧ a < n ∧ b < n ∧ a ∉ away ∧ b ∉ away)) : routeP n es a b away = [] := by
  unfold routeP
  rw [if_neg h]
/-- The neighbours of each, as the edges come. -/
def nearAdd (M : List (List Int)) (e : Int × Int) : List (List Int) :=
  (M.set e.1.toNat (nthR M e.1.toNat ++ [e.2])).set e.2.toNat (nthR (M.set e.1.toNat (nthR M e.1.toNat ++ [e.2])) e.2.toNat ++ [e.1])
structure NearOk (N : Nat) (es : List (Int × Int)) (M : List (List Int)) : Prop where
  len : M.length = N
  mem : ∀ v : Nat, v < N → ∀ x, x ∈ nthR M v ↔ adj es v x
  short : ∀ v, (nthR M v).length ≤ 2 * es.length
theorem NearOk.start (N : Nat) : NearOk N [] (List.replicate N []) :=
  ⟨by simp, fun v _ x => by rw [nthR_rep]; simp [adj], fun v => by rw [nthR_rep]; simp⟩
theorem NearOk.add {N : Nat} {es : List (Int × Int)} {M : List (List Int)} (h : NearOk N es M) {e : Int × Int} (h1 : 0 ≤ e.1 ∧ e.1 < N) (h2 : 0 ≤ e.2 ∧ e.2 < N) (hne : e.1 ≠ e.2) : NearOk N (es ++ [e]) (nearAdd M e) := by
  have hl := h.len
  have e1 : ∀ v : Nat, nthR (nearAdd M e) v = if e.2.toNat = v then nthR M v ++ [e.1] else if e.1.toNat = v then nthR M v ++ [e.2] else nthR M v := by
    intro v
    unfold nearAdd
    rw [nthR_set (by simp; omega), nthR_set (by omega), nthR_set (by omega)]
    by_cases k2 : e.2.toNat = v
    · subst k2
      rw [if_pos rfl, if_pos rfl, if_neg (by omega)]
    · rw [if_neg k2, if_neg k2]
      by_cases k1 : e.1.toNat = v
      · subst k1; rw [if_pos rfl]
        first | done | rw [if_pos rfl]
      · rw [if_neg k1, if_neg k1]
  refine ⟨by unfold nearAdd; simp [hl], fun v hv x => ?_, fun v => ?_⟩
  · rw [e1 v]
    have hm := h.mem v hv x
    have ha : adj (es ++ [e]) v x ↔ adj es v x ∨ ((v : Int) = e.1 ∧ x = e.2) ∨ ((v : Int) = e.2 ∧ x = e.1) := by
      obtain ⟨p, q⟩ := e
      simp only [adj, List.mem_append, List.mem_singleton, Prod.mk.injEq]
      constructor
      · rintro ((h | h) | (h | ⟨h, k⟩))
        · exact .inl (.inl h)
        · exact .inr (.inl h)
        · exact .inl (.inr h)
        · exact .inr (.inr ⟨k, h⟩)
      · rintro ((h | h) | (h | ⟨h, k⟩))
        · exact .inl (.inl h)
        · exact .inr (.inl h)
        · exact .inl (.inr h)
        · exact .inr (.inr ⟨k, h⟩)
    rw [ha]
    by_cases k2 : e.2.toNat = v
    · rw [if_pos k2, List.mem_append, hm, List.mem_singleton]
      constructor
      · rintro (h | h)
        · exact .inl h
        · exact .inr (.inr ⟨by omega, h⟩)
      · rintro (h | ⟨h, k⟩ | ⟨h, k⟩)
        · exact .inl h
        · omega
        · exact .inr k
    · rw [if_neg k2]
      by_cases k1 : e.1.toNat = v
      · rw [if_pos k1, List.mem_append, hm, List.mem_singleton]
        constructor
        · rintro (h | h)
          · exact .inl h
          · exact .inr (.inl ⟨by omega, h⟩)
        · rintro (h | ⟨h, k⟩ | ⟨h, k⟩)
          · exact .inl h
          · exact .inr k
          · omega
      · rw [if_neg k1, hm]
        constructor
        · exact .inl
        · rintro (h | ⟨h, k⟩ | ⟨h, k⟩)
          · exact h
          · omega
          · omega
  · rw [e1 v]
    have := h.short v
    split
    · simp; omega
    · split
      · simp; omega
      · simp; omega
/-- What is kept away from, as the numbers come. -/
def AwF (N : Nat) (l : List Int) (F : List Int) : Prop := F.length = N ∧ ∀ v : Nat, v < N → nth F v = if (v : Int) ∈ l then -1 else 0
theorem AwF.start (N : Nat) : AwF N [] (List.replicate N 0) := ⟨by simp, fun v hv => by simp [nth, List.getD_eq_getElem?_getD, hv]⟩
theorem AwF.out {N : Nat} {l F : List Int} {x : Int} (h : AwF N l F) (hx : ¬ (0 ≤ x ∧ x < (N : Int))) : AwF N (l ++ [x]) F := by
  refine ⟨h.1, fun v hv => ?_⟩
  rw [h.2 v hv]
  have : (v : Int) ∈ l ++ [x] ↔ (v : Int) ∈ l := by
    rw [List.mem_append, List.mem_singleton]
    exact ⟨fun k => k.resolve_right fun e => hx (by omega), .inl⟩
  simp only [this]
theorem AwF.put {N : Nat} {l F : List Int} {x : Int} (h : AwF N l F) (hx : 0 ≤ x ∧ x < (N : Int)) : AwF N (l ++ [x]) (F.set x.toNat (-1)) := by
  have hl := h.1
  refine ⟨by simpa using h.1, fun v hv => ?_⟩
  have h2 := h.2 v hv
  simp only [nth, List.getD_eq_getElem?_getD, List.getElem?_set] at h2 ⊢
  by_cases e : x.toNat = v
  · rw [if_pos e, if_pos (by omega), if_pos (by rw [List.mem_append, List.mem_singleton]; right; omega)]; rfl
  · rw [if_neg e, h2]
    have : (v : Int) ∈ l ++ [x] ↔ (v : Int) ∈ l := by
      rw [List.mem_append, List.mem_singleton]
      exact ⟨fun k => k.resolve_right fun e' => e (by omega), .inl⟩
    simp only [this]
noncomputable abbrev E20 : Env := ext env0 32 spec32
/-- The least neighbour that is nearer, of those seen. -/
def NextIs (F : List Int) (t : Int) (l : List Int) (z : Int) : Prop := (z = -1 ∧ ∀ x ∈ l, nth F x.toNat ≠ t) ∨ (0 ≤ z ∧ z ∈ l ∧ nth F z.toNat = t ∧ ∀ x ∈ l, nth F x.toNat = t → z ≤ x)
theorem NextIs.skip {F l : List Int} {t z x : Int} (h : NextIs F t l z) (hx : nth F x.toNat = t → 0 ≤ z ∧ z ≤ x) : NextIs F t (l ++ [x]) z := by
  rcases h with ⟨h1, h2⟩ | ⟨h1, h2, h3, h4⟩
  · refine .inl ⟨h1, fun y hy => ?_⟩
    rcases List.mem_append.1 hy with hy | hy
    · exact h2 y hy
    · simp only [List.mem_singleton] at hy
      subst hy
      intro e; have := hx e; omega
  · refine .inr ⟨h1, List.mem_append.2 (.inl h2), h3, fun y hy e => ?_⟩
    rcases List.mem_append.1 hy with hy | hy
    · exact h4 y hy e
    · simp only [List.mem_singleton] at hy
      subst hy
      exact (hx e).2
theorem NextIs.take {F l : List Int} {t z x : Int} (h : NextIs F t l z) (h0 : 0 ≤ x) (hx : nth F x.toNat = t) (hz : z < 0 ∨ x < z) : NextIs F t (l ++ [x]) x := by
  refine .inr ⟨h0, List.mem_append.2 (.inr (by simp)), hx, fun y hy e => ?_⟩
  rcases List.mem_append.1 hy with hy | hy
  · rcases h with ⟨_, h2⟩ | ⟨h1, _, _, h4⟩
    · exact absurd e (h2 y hy)
    · have := h4 y hy e; omega
  · simp only [List.mem_singleton] at hy
    omega
theorem w20 (n : Int) (es : List (Int × Int)) (a b : Int) (away : List Int) (hl : away.length ≤ 17592186043904) : ∃ c, Try.f20.body = some c ∧ RP (regOf Try.prog E20 217 u20) c (argsSt 0 [gr n es, iv a, iv b, ints away]) (endsAs Try.prog Try.f20 (ow (routeP n es a b away))) := by
  refine ⟨_, rfl, ?_⟩
  generalize hQ : endsAs Try.prog Try.f20 (ow (routeP n es a b away)) = Q
  simp only [argsSt]
  by_cases hok : RightG n es ∧ 0 ≤ a ∧ 0 ≤ b ∧ a < n ∧ b < n
  case neg =>
    have hans : routeP n es a b away = [] := routeP_nil fun h => hok ⟨h.1, h.2.1, h.2.2.1, h.2.2.2.1, h.2.2.2.2.1⟩
    rw [hans] at hQ
    refine gs ?_
    by_cases hR : RightG n es
    case neg =>
      refine go ?_
      show Q .ret _; refine fin_ret hQ rfl ?_
      rfl
    by_cases h0 : a < 0 ∨ b < 0
    · have h0' : min a b < 0 := by omega
      refine go ?_
      show Q .ret _; refine fin_ret hQ rfl ?_
      rfl
    have h2 : ¬ (0 ≤ a ∧ 0 ≤ b ∧ a < n ∧ b < n) := fun h => hok ⟨hR, h⟩
    have h1 : n ≤ max a b := by omega
    refine go ?_
    show Q .ret _; refine fin_ret hQ rfl ?_
    rfl
  obtain ⟨hR, ha0, hb0, ha1, hb1⟩ := hok
  have hn0 := hR.1
  obtain ⟨N, rfl⟩ : ∃ N : Nat, n = N := ⟨n.toNat, by omega⟩
  obtain ⟨A, rfl⟩ : ∃ A : Nat, a = A := ⟨a.toNat, by omega⟩
  obtain ⟨B, rfl⟩ : ∃ B : Nat, b = B := ⟨b.toNat, by omega⟩
  have hN : N ≤ 1000 := by omega
  have hE : es.length ≤ 4000 := hR.1.2.2
  have hA : A < N := by omega
  have hB : B < N := by omega
  refine go ?_
  have hr : ∀ i, i < es.length → (0 ≤ (ent es i).1 ∧ (ent es i).1 < (N : Int)) ∧ (0 ≤ (ent es i).2 ∧ (ent es i).2 < (N : Int)) ∧ (ent es i).1 ≠ (ent es i).2 := by
    intro i hi
    have := hR.mem (mem_ent.2 ⟨i, hi, rfl, rfl⟩)
    omega
  refine RP.mono (Q := fun e σ => e = .exit 0 ∧ ∃ (i : Nat) (M : List (List Int)), NearOk N es M ∧ σ = [(1, iv A), (2, iv B), (3, ints away), (4, gbx N es), (9, orows M), (44, ⟨.one, [.c (.sl false 2 () (EL es))]⟩), (45, iv es.length), (46, iv i), (47, bv false)]) ?_ ?_
  · apply rp_loop (fun k σ => ∃ (i : Nat) (M : List (List Int)), i ≤ es.length ∧ k = es.length - i ∧ NearOk N (es.take i) M ∧ σ = [(1, iv A), (2, iv B), (3, ints away), (4, gbx N es), (9, orows M), (44, ⟨.one, [.c (.sl false 2 () (EL es))]⟩), (45, iv es.length), (46, iv i)]) es.length
    · exact ⟨0, _, by omega, by omega, NearOk.start N, rfl⟩
    rintro k σ ⟨i, M, hi, rfl, hM, rfl⟩
    by_cases hil : i < es.length
    case neg =>
      refine go ?_
      exact ⟨rfl, i, M, by rwa [List.take_of_length_le (by omega)] at hM, rfl⟩
    obtain ⟨hp, hq, hpq⟩ := hr i hil
    have hMl := hM.len
    have hM1l : (M.set (ent es i).1.toNat (nthR M (ent es i).1.toNat ++ [(ent es i).2])).length = N := by simp [hMl]
    have hs1 : (nthR M (ent es i).1.toNat).length ≤ 8000 := by
      have := hM.short (ent es i).1.toNat
      rw [List.length_take] at this; omega
    have hs2 : (nthR (M.set (ent es i).1.toNat (nthR M (ent es i).1.toNat ++ [(ent es i).2])) (ent es i).2.toNat).length ≤ 8001 := by
      rw [nthR_set (by omega)]
      have := hM.short (ent es i).2.toNat
      rw [List.length_take] at this
      split
      · simp; omega
      · omega
    have hnext := hM.add hp hq hpq
    rw [show es.take i ++ [ent es i] = es.take (i + 1) by rw [ent_eq hil]; simp] at hnext
    refine go ?_
    exact nxt (es.length - (i + 1)) (by omega) ⟨i + 1, nearAdd M (ent es i), by omega, by omega, hnext, by simp [nearAdd]⟩
  rintro e σ ⟨rfl, i, M, hM, rfl⟩
  simp only [inBlock_exit, if_true, thenR_normal]
  have hMl := hM.len
  refine go ?_
  refine RP.mono (Q := fun e σ => e = .exit 2 ∧ ∃ (i : Nat) (F : List Int), AwF N away F ∧ σ = [(1, iv A), (2, iv B), (4, gbx N es), (9, orows M), (12, ow F), (80, ints away), (81, iv away.length), (82, iv i), (83, bv false)]) ?_ ?_
  · apply rp_loop (fun k σ => ∃ (i : Nat) (F : List Int), i ≤ away.length ∧ k = away.length - i ∧ AwF N (away.take i) F ∧ σ = [(1, iv A), (2, iv B), (4, gbx N es), (9, orows M), (12, ow F), (80, ints away), (81, iv away.length), (82, iv i)]) away.length
    · exact ⟨0, _, by omega, by omega, AwF.start N, rfl⟩
    rintro k σ ⟨i, F, hi, rfl, hF, rfl⟩
    by_cases hil : i < away.length
    case neg =>
      refine go ?_
      exact ⟨rfl, i, F, by rwa [List.take_of_length_le (by omega)] at hF, rfl⟩
    have hFl := hF.1
    have htk : away.take (i + 1) = away.take i ++ [nth away i] := by rw [nth_eq hil]; simp
    by_cases hx : 0 ≤ nth away i ∧ nth away i < (N : Int)
    case neg =>
      have hnext := hF.out hx
      rw [← htk] at hnext
      rcases (by omega : nth away i < 0 ∨ ((N : Int) ≤ nth away i ∧ 0 ≤ nth away i)) with h | ⟨h, h'⟩
      · refine go ?_
        exact nxt (away.length - (i + 1)) (by omega) ⟨i + 1, F, by omega, by omega, hnext, by simp⟩
      · refine go ?_
        exact nxt (away.length - (i + 1)) (by omega) ⟨i + 1, F, by omega, by omega, hnext, by simp⟩
    have hnext := hF.put hx
    rw [← htk] at hnext
    obtain ⟨hx0, hx1⟩ := hx
    refine go ?_
    exact nxt (away.length - (i + 1)) (by omega) ⟨i + 1, F.set (nth away i).toNat (-1), by omega, by omega, hnext, by simp⟩
  rintro e σ ⟨rfl, j, F, hF, rfl⟩
  simp only [inBlock_exit, if_true, thenR_normal]
  have hFl := hF.1
  by_cases haw : (A : Int) ∈ away ∨ (B : Int) ∈ away
  · have hans : routeP N es A B away = [] := routeP_nil fun h => haw.elim h.2.2.2.2.2.1 h.2.2.2.2.2.2
    rw [hans] at hQ
    by_cases haw1 : (A : Int) ∈ away
    · have h1 : nth F A < 0 := by rw [hF.2 A hA, if_pos haw1]; decide
      refine go ?_
      show Q .ret _; refine fin_ret hQ rfl ?_
      rfl
    · have h1 : nth F A = 0 := by rw [hF.2 A hA, if_neg haw1]
      have h2 : nth F B < 0 := by rw [hF.2 B hB, if_pos (haw.resolve_left haw1)]; decide
      refine go ?_
      show Q .ret _; refine fin_ret hQ rfl ?_
      rfl
  have haA : (A : Int) ∉ away := fun h => haw (.inl h)
  have haB : (B : Int) ∉ away := fun h => haw (.inr h)
  have hFA : nth F A = 0 := by rw [hF.2 A hA, if_neg haA]
  have hFB : nth F B = 0 := by rw [hF.2 B hB, if_neg haB]
  refine go ?_
  refine RP.mono (Q := fun e σ => e = .exit 4 ∧ ∃ (F : List Int) (q : List Int), OutOk N es away B F q ∧ (q = [] ∨ nth F A ≠ 0) ∧ σ = [(1, iv A), (2, iv B), (9, orows M), (12, ow F), (15, ow q), (124, bv false)]) ?_ ?_
  · apply rp_loop (fun k σ => ∃ (F : List Int) (q : List Int), k = q.length + F.count 0 ∧ OutOk N es away B F q ∧ σ = [(1, iv A), (2, iv B), (9, orows M), (12, ow F), (15, ow q)]) (1 + (F.set B 1).count 0)
    · exact ⟨F.set B 1, [(B : Int)], by simp, OutOk.start hFl hB hF.2 haB, by simp [IL]⟩
    clear hF hFl hFA hFB
    rintro k σ ⟨F, q, rfl, hO, rfl⟩
    have hFl := hO.f.len
    have hq := hO.few
    by_cases hq0 : 0 < q.length
    case neg =>
      have hq1 : q.length = 0 := by omega
      refine go ?_
      exact ⟨rfl, F, q, hO, .inl (List.length_eq_zero_iff.1 hq1), rfl⟩
    by_cases hFA : nth F A = 0
    case neg =>
      refine go ?_
      exact ⟨rfl, F, q, hO, .inr hFA, rfl⟩
    obtain ⟨u, Q, rfl⟩ : ∃ u Q, q = u :: Q := by
      cases q with
      | nil => simp at hq0
      | cons u Q => exact ⟨u, Q, rfl⟩
    have hI := hO.enter
    obtain ⟨hu0, hu1⟩ := hI.urange
    have hqu : nth (u :: Q) 0 = u := rfl
    generalize hqq : u :: Q = q at *
    have hs1 : (nthR M u.toNat).length ≤ 8000 := by
      have := hM.short u.toNat
      omega
    rw [← hqu] at hs1 hu0 hu1
    refine go ?_
    have hql : (nth q 0).toNat < M.length := by omega
    refine RP.mono (Q := fun e σ => e = .exit 6 ∧ ∃ (i : Nat) (F' Q' q' : List Int), InOk N es away B (q.length + F.count 0) F' u Q' (nthR M (nth q 0).toNat) ∧ q' = u :: Q' ∧ σ = [(1, iv A), (2, iv B), (9, orows M), (12, ow F'), (15, ow q'), (132, ⟨.one, [.view 9 [0, (nth q 0).toNat]]⟩), (133, iv (nthR M (nth q 0).toNat).length), (134, iv i), (135, bv false)]) ?_ ?_
    · apply rp_loop (fun k σ => ∃ (i : Nat) (F' Q' q' : List Int), k = (nthR M (nth q 0).toNat).length - i ∧ i ≤ (nthR M (nth q 0).toNat).length ∧ InOk N es away B (q.length + F.count 0) F' u Q' ((nthR M (nth q 0).toNat).take i) ∧ q' = u :: Q' ∧ σ = [(1, iv A), (2, iv B), (9, orows M), (12, ow F'), (15, ow q'), (132, ⟨.one, [.view 9 [0, (nth q 0).toNat]]⟩), (133, iv (nthR M (nth q 0).toNat).length), (134, iv i)]) (nthR M (nth q 0).toNat).length
      · refine ⟨0, F, Q, q, by omega, by omega, ?_, hqq.symm, by simp⟩
        have : q.length = Q.length + 1 := by rw [← hqq]; rfl
        rw [this]; exact hI
      rintro k σ ⟨i, F', Q', q', rfl, hi, hI', hq', rfl⟩
      have hFl' := hI'.f.len
      have hq0' : 0 < q'.length := by rw [hq']; simp
      have hq1' : q'.length ≤ 1001 := by
        have h1 := hI'.same
        have h2 := hI'.few
        rw [hq', List.length_cons]; omega
      have hqq' : nth q' 0 = nth q 0 := by rw [hq', hqu]; rfl
      by_cases hil : i < (nthR M (nth q 0).toNat).length
      case neg =>
        refine go ?_
        exact ⟨rfl, i, F', Q', q', by rwa [List.take_of_length_le (by omega)] at hI', hq', rfl⟩
      have htk : (nthR M (nth q 0).toNat).take (i + 1) = (nthR M (nth q 0).toNat).take i ++ [nth (nthR M (nth q 0).toNat) i] := by rw [nth_eq hil]; simp
      have hadj : adj es u (nth (nthR M (nth q 0).toNat) i) := by
        have := (hM.mem (nth q 0).toNat (by omega) (nth (nthR M (nth q 0).toNat) i)).1 (by rw [nth_eq hil]; exact List.getElem_mem _)
        rwa [show (((nth q 0).toNat : Nat) : Int) = u by omega] at this
      have hx : 0 ≤ nth (nthR M (nth q 0).toNat) i ∧ nth (nthR M (nth q 0).toNat) i < (N : Int) := by
        rcases hadj with h | h
        · have := hR.mem h; omega
        · have := hR.mem h; omega
      have hval : -1 ≤ nth F' (nth q' 0).toNat ∧ nth F' (nth q' 0).toNat ≤ 2000 := by
        have h1 := hI'.f.lo (nth q' 0).toNat (by omega)
        have h2 := hI'.f.hi (nth q' 0).toNat (by omega)
        omega
      by_cases hxF : nth F' (nth (nthR M (nth q 0).toNat) i).toNat = 0
      case neg =>
        have hnext := hI'.old hx hxF
        rw [← htk] at hnext
        obtain ⟨hx0, hx1⟩ := hx
        refine go ?_
        exact nxt ((nthR M (nth q 0).toNat).length - (i + 1)) (by omega) ⟨i + 1, F', Q', q', by omega, by omega, hnext, hq', by simp⟩
      have hnext := hI'.fresh hx hxF hadj
      rw [← htk] at hnext
      obtain ⟨hx0, hx1⟩ := hx
      refine go ?_
      refine nxt ((nthR M (nth q 0).toNat).length - (i + 1)) (by omega) ⟨i + 1, _, _, q' ++ [nth (nthR M (nth q 0).toNat) i], by omega, by omega, hnext, by rw [hq']; rfl, ?_⟩
      rw [hqq', hqu]
      simp
    rintro e σ ⟨rfl, i, F', Q', q', hI', hq', rfl⟩
    simp only [inBlock_exit, if_true, thenR_normal]
    have hnext := hI'.leave fun v hv => by
      have := (hM.mem (nth q 0).toNat (by omega) v).2
      rw [show (((nth q 0).toNat : Nat) : Int) = u by omega] at this
      exact this hv
    have hsame := hI'.same
    have hFl' := hI'.f.len
    have hq0' : 0 < q'.length := by rw [hq']; simp
    have hq1' : q'.length ≤ 1001 := by
      have h1 := hI'.same
      have h2 := hI'.few
      rw [hq', List.length_cons]; omega
    refine go ?_
    refine nxt (Q'.length + F'.count 0) (by omega) ⟨F', Q', rfl, hnext, ?_⟩
    rw [hq']
    simp
  rintro e σ ⟨rfl, F, q, hO, hend, rfl⟩
  simp only [inBlock_exit, if_true, thenR_normal]
  have hFl2 := hO.f.len
  have hadjr : ∀ u v, adj es u v → 0 ≤ v ∧ v < (N : Int) := fun u v h => by
    rcases h with h | h
    · have := hR.mem h; omega
    · have := hR.mem h; omega
  have hg : RightG N es ∧ 0 ≤ (A : Int) ∧ 0 ≤ (B : Int) ∧ (A : Int) < N ∧ (B : Int) < N ∧ (A : Int) ∉ away ∧ (B : Int) ∉ away := ⟨hR, ha0, hb0, ha1, hb1, haA, haB⟩
  have hdA : dOf N F A = (nth F A).toNat := by rw [dOf_in (by omega)]; simp
  have hloA := hO.f.lo A hA
  have hngA : ¬ nth F A < 0 := fun h => haA ((hO.f.neg A hA).1 h)
  by_cases hFA : nth F A = 0
  · have hq : q = [] := hend.resolve_right fun h => h hFA
    subst hq
    have hans : routeP N es A B away = [] := routeP_eq hg (.inr ⟨rfl, no_route hO.bfs.far_nil (by rw [hdA, hFA]; rfl)⟩)
    rw [hans] at hQ
    refine go ?_
    show Q .ret _; refine fin_ret hQ rfl ?_
    rfl
  have hfar := hO.bfs.far (a := A) (by omega)
  have hdA2 : dOf N F A ≤ 1001 := by
    have := hO.f.hi A hA
    omega
  refine go ?_
  refine RP.mono (Q := fun e σ => e = .exit 8 ∧ ∃ pre : List Int, Best es away B (dOf N F) A (pre ++ [(B : Int)]) ∧ σ = [(2, iv B), (9, orows M), (12, ow F), (18, ow (pre ++ [(B : Int)])), (19, iv B), (173, bv false)]) ?_ ?_
  · apply rp_loop (fun k σ => ∃ (at' : Int) (pre : List Int), (0 ≤ at' ∧ at' < (N : Int)) ∧ k = dOf N F at' ∧ 0 < dOf N F at' ∧ dOf N F at' + pre.length = dOf N F A ∧ (∀ r, Best es away B (dOf N F) at' r → Best es away B (dOf N F) A (pre ++ r)) ∧ σ = [(2, iv B), (9, orows M), (12, ow F), (18, ow (pre ++ [at'])), (19, iv at')]) (dOf N F A)
    · exact ⟨A, [], by omega, rfl, by omega, by simp, fun r hr => hr, by simp [IL]⟩
    rintro k σ ⟨at', pre, ⟨hat0, hat1⟩, rfl, hat2, hpre, hbest, rfl⟩
    have hdat : dOf N F at' = (nth F at'.toNat).toNat := dOf_in ⟨hat0, hat1⟩
    by_cases hend : at' = (B : Int)
    · refine go ?_
      subst hend
      exact ⟨rfl, pre, hbest _ hfar.best_end, rfl⟩
    have h1 : 1 < dOf N F at' := by
      have := hfar.only at'
      rcases Nat.lt_or_ge 1 (dOf N F at') with h | h
      · exact h
      · exact absurd (this (by omega)) hend
    have hs1 : (nthR M at'.toNat).length ≤ 8000 := by
      have := hM.short at'.toNat
      omega
    have hql : at'.toNat < M.length := by omega
    have hmem : ∀ x, x ∈ nthR M at'.toNat ↔ adj es at' x := fun x => by
      have := hM.mem at'.toNat (by omega) x
      rwa [show ((at'.toNat : Nat) : Int) = at' by omega] at this
    have hFlo := hO.f.lo at'.toNat (by omega)
    have hFhi := hO.f.hi at'.toNat (by omega)
    have hprel : pre.length ≤ 1001 := by omega
    refine go ?_
    refine RP.mono (Q := fun e σ => e = .exit 10 ∧ ∃ (i : Nat) (z : Int), NextIs F (nth F at'.toNat - 1) (nthR M at'.toNat) z ∧ σ = [(2, iv B), (9, orows M), (12, ow F), (18, ow (pre ++ [at'])), (19, iv at'), (20, iv z), (181, ⟨.one, [.view 9 [0, at'.toNat]]⟩), (182, iv (nthR M at'.toNat).length), (183, iv i), (184, bv false)]) ?_ ?_
    · apply rp_loop (fun k σ => ∃ (i : Nat) (z : Int), k = (nthR M at'.toNat).length - i ∧ i ≤ (nthR M at'.toNat).length ∧ NextIs F (nth F at'.toNat - 1) ((nthR M at'.toNat).take i) z ∧ σ = [(2, iv B), (9, orows M), (12, ow F), (18, ow (pre ++ [at'])), (19, iv at'), (20, iv z), (181, ⟨.one, [.view 9 [0, at'.toNat]]⟩), (182, iv (nthR M at'.toNat).length), (183, iv i)]) (nthR M at'.toNat).length
      · exact ⟨0, -1, by omega, by omega, .inl ⟨rfl, by simp⟩, by simp⟩
      rintro k σ ⟨i, z, rfl, hi, hz, rfl⟩
      by_cases hil : i < (nthR M at'.toNat).length
      case neg =>
        refine go ?_
        exact ⟨rfl, i, z, by rwa [List.take_of_length_le (by omega)] at hz, rfl⟩
      have htk : (nthR M at'.toNat).take (i + 1) = (nthR M at'.toNat).take i ++ [nth (nthR M at'.toNat) i] := by rw [nth_eq hil]; simp
      have hx : 0 ≤ nth (nthR M at'.toNat) i ∧ nth (nthR M at'.toNat) i < (N : Int) := hadjr _ _ ((hmem _).1 (by rw [nth_eq hil]; exact List.getElem_mem _))
      obtain ⟨hx0, hx1⟩ := hx
      have hxlo := hO.f.lo (nth (nthR M at'.toNat) i).toNat (by omega)
      have hxhi := hO.f.hi (nth (nthR M at'.toNat) i).toNat (by omega)
      rcases (by omega : nth F (nth (nthR M at'.toNat) i).toNat ≠ nth F at'.toNat - 1 ∨ (nth F (nth (nthR M at'.toNat) i).toNat = nth F at'.toNat - 1 ∧ z < 0) ∨ (nth F (nth (nthR M at'.toNat) i).toNat = nth F at'.toNat - 1 ∧ ¬ z < 0 ∧ nth (nthR M at'.toNat) i < z) ∨ (nth F (nth (nthR M at'.toNat) i).toNat = nth F at'.toNat - 1 ∧ ¬ z < 0 ∧ ¬ nth (nthR M at'.toNat) i < z)) with c1 | ⟨c1, c2⟩ | ⟨c1, c2, c3⟩ | ⟨c1, c2, c3⟩
      · have hnext := hz.skip (x := nth (nthR M at'.toNat) i) (fun e => absurd e c1)
        rw [← htk] at hnext
        refine go ?_
        exact nxt ((nthR M at'.toNat).length - (i + 1)) (by omega) ⟨i + 1, z, by omega, by omega, hnext, by simp⟩
      · have hnext := hz.take hx0 c1 (.inl c2)
        rw [← htk] at hnext
        have c4 : 0 < nth F (nth (nthR M at'.toNat) i).toNat := by omega
        refine go ?_
        exact nxt ((nthR M at'.toNat).length - (i + 1)) (by omega) ⟨i + 1, nth (nthR M at'.toNat) i, by omega, by omega, hnext, by simp⟩
      · have hnext := hz.take hx0 c1 (.inr c3)
        rw [← htk] at hnext
        have c4 : 0 < nth F (nth (nthR M at'.toNat) i).toNat := by omega
        refine go ?_
        exact nxt ((nthR M at'.toNat).length - (i + 1)) (by omega) ⟨i + 1, nth (nthR M at'.toNat) i, by omega, by omega, hnext, by simp⟩
      · have hnext := hz.skip (x := nth (nthR M at'.toNat) i) (fun e => by omega)
        rw [← htk] at hnext
        have c4 : 0 < nth F (nth (nthR M at'.toNat) i).toNat := by omega
        refine go ?_
        exact nxt ((nthR M at'.toNat).length - (i + 1)) (by omega) ⟨i + 1, z, by omega, by omega, hnext, by simp⟩
    rintro e σ ⟨rfl, i, z, hz, rfl⟩
    simp only [inBlock_exit, if_true, thenR_normal]
    obtain ⟨y, hy1, hy2⟩ := hfar.prev at' h1
    have hyr := hadjr _ _ hy1
    rw [dOf_in hyr] at hy2
    have hyt : nth F y.toNat = nth F at'.toNat - 1 := by omega
    rcases hz with ⟨rfl, hz⟩ | ⟨hz0, hz1, hz2, hz3⟩
    · exact absurd hyt (hz y ((hmem y).2 hy1))
    have hzr := hadjr _ _ ((hmem z).1 hz1)
    have hdz : dOf N F z = (nth F z.toNat).toNat := dOf_in hzr
    refine go ?_
    refine nxt (dOf N F z) (by omega) ⟨z, pre ++ [at'], hzr, rfl, by omega, by simp; omega, fun r hr => ?_, by simp⟩
    have hst := hfar.best_step h1 (by omega) ((hmem z).1 hz1) (by omega) (fun w hw hdw => hz3 w ((hmem w).2 hw) (by
      rw [dOf_in (hadjr _ _ hw)] at hdw
      omega)) hr
    have := hbest _ hst
    simpa using this
  rintro e σ ⟨rfl, pre, hb, rfl⟩
  simp only [inBlock_exit, if_true, thenR_normal]
  have hans : routeP N es A B away = pre ++ [(B : Int)] := routeP_eq hg (.inl (hfar.best_route (by omega) hb))
  rw [hans] at hQ
  refine go ?_
  show Q .ret _; refine fin_ret hQ rfl ?_
  rfl
end Go.Proofs.Ytngglgkemonibaa.L
namespace Go.Proofs.Ytngglgkemonibaa.L
open Go Go.RowKit
noncomputable def spec20 : Spec := spec4 asGr asInt asInt asInts fun g a b l => when (l.length ≤ 17592186043904) (ow (routeP g.1 g.2 a b l))
theorem ok20 : SpecOk 20 spec20 := by
  intro us r h
  obtain ⟨x, y, z, u, g, a, b, l, rfl, hg, ha, hb, hp, h⟩ := spec4_eq h
  obtain ⟨hl, rfl⟩ := when_eq h
  rw [asGr_eq hg, asInt_eq ha, asInt_eq hb, asInts_eq hp]
  exact goodBy2 (ext_ok env0_ok ok32) Try.func20 rfl (Nat.le_of_ble_eq_true rfl) (by decide) (w20 g.1 g.2 a b l hl)
@[simp] theorem s20 (n : Int) (es : List (Int × Int)) (a b : Int) (p : List Int) (h : p.length ≤ 17592186043904) : spec20 [gr n es, iv a, iv b, ints p] = some (ow (routeP n es a b p)) := by
  unfold spec20; rw [spec4_v (asGr_gr n es) (asInt_iv a) (asInt_iv b) (asInts_ints p)]; exact when_pos _ h
@[simp] theorem call20 {E : Env} {σ : St Unit} {t : Nat} {l : List Operand} : effCall Try.prog E ΩU σ t 20 l = callO E 20 t (argsOf Try.prog ΩU σ [24, 3, 3, 25] l) := eff_call Try.func20 Try.params20
end Go.Proofs.Ytngglgkemonibaa.L
namespace Go.Proofs.Ytngglgkemonibaa.L
open Go Go.RowKit
theorem routeP_len (n : Int) (es : List (Int × Int)) (a b : Int) (away : List Int) : (routeP n es a b away).length ≤ 1000 := by
  unfold routeP
  split
  · next h =>
    split
    · next h2 =>
      rcases h2.choose_spec with hr | hr
      · obtain ⟨N, hN⟩ : ∃ N : Nat, n = N := ⟨n.toNat, by omega⟩
        have hR := h.1
        have hadjr : ∀ u v, adj es u v → 0 ≤ v ∧ v < (N : Int) := fun u v hh => by
          rcases hh with hh | hh
          · have := hR.mem hh; omega
          · have := hR.mem hh; omega
        obtain ⟨q, q1, q2⟩ := hr.1.short hadjr (by omega)
        have hn := hR.1
        rcases hr.2 q q1 with k | ⟨k, _⟩
        · omega
        · omega
      · rw [hr.1]; simp
    · simp
  · simp
end Go.Proofs.Ytngglgkemonibaa.L
namespace Go.Proofs.Ytngglgkemonibaa.L
open Go Go.RowKit
variable {es : List (Int × Int)} {away : List Int} {a b : Int}
/-! ### there is a least one -/
theorem least_nat {P : Nat → Prop} (h : ∃ k, P k) : ∃ k, P k ∧ ∀ m, P m → k ≤ m := by
  obtain ⟨k, hk⟩ := h
  induction k using Nat.strongRecOn with
  | _ k ih =>
    by_cases h : ∃ m, m < k ∧ P m
    · obtain ⟨m, h1, h2⟩ := h
      exact ih m h1 h2
    · exact ⟨k, hk, fun m hm => by
        rcases Nat.lt_or_ge m k with h1 | h1
        · exact absurd ⟨m, h1, hm⟩ h
        · exact h1⟩
open Classical in
noncomputable def dist (es : List (Int × Int)) (away : List Int) (b v : Int) : Nat := if h : ∃ k p, Pth es away b v p ∧ p.length = k then (least_nat h).choose else 0
theorem dist_le {v : Int} {p : List Int} (h : Pth es away b v p) : 0 < dist es away b v ∧ dist es away b v ≤ p.length := by
  have hx : ∃ k p, Pth es away b v p ∧ p.length = k := ⟨_, p, h, rfl⟩
  unfold dist
  rw [dif_pos hx]
  obtain ⟨⟨q, h1, h2⟩, h3⟩ := (least_nat hx).choose_spec
  exact ⟨by rw [← h2]; exact h1.pos, h3 _ ⟨p, h, rfl⟩⟩
theorem dist_path {v : Int} (h : 0 < dist es away b v) : ∃ p, Pth es away b v p ∧ p.length = dist es away b v := by
  by_cases hx : ∃ k p, Pth es away b v p ∧ p.length = k
  · obtain ⟨⟨q, h1, h2⟩, h3⟩ := (least_nat hx).choose_spec
    refine ⟨q, h1, ?_⟩
    unfold dist
    rw [dif_pos hx]; exact h2
  · unfold dist at h
    rw [dif_neg hx] at h; omega
theorem dist_far (hb : b ∉ away) (K : Nat) : Far es away b (dist es away b) K where
  start := by
    have := dist_le (Pth.one (es := es) hb)
    simp only [List.length_cons, List.length_nil] at this; omega
  only v hv := by
    obtain ⟨p, h1, h2⟩ := dist_path (es := es) (away := away) (b := b) (v := v) (by omega)
    rcases h1.cases with ⟨_, h3⟩ | ⟨x, l, rfl, _, h3⟩
    · exact h3
    · have := h3.pos
      simp only [List.length_cons] at h2; omega
  free v hv := by
    obtain ⟨p, h1, _⟩ := dist_path hv
    exact h1.first
  prev v hv := by
    obtain ⟨p, h1, h2⟩ := dist_path (es := es) (away := away) (b := b) (v := v) (by omega)
    rcases h1.cases with ⟨rfl, _⟩ | ⟨x, l, rfl, h3, h4⟩
    · simp only [List.length_cons, List.length_nil] at h2; omega
    · refine ⟨x, h3, ?_⟩
      simp only [List.length_cons] at h2
      have h5 := dist_le h4
      obtain ⟨q, h6, h7⟩ := dist_path h5.1
      have h8 := dist_le (h6.cons h1.first h3)
      simp only [List.length_cons] at h8; omega
  full u v hu _ he hv := by
    obtain ⟨p, h1, h2⟩ := dist_path hu
    have := dist_le (h1.cons hv he.symm)
    simp only [List.length_cons] at this; omega
theorem least_of {P : Int → Prop} (h0 : ∀ x, P x → 0 ≤ x) (h : ∃ x, P x) : ∃ x, P x ∧ ∀ y, P y → x ≤ y := by
  obtain ⟨x, hx⟩ := h
  obtain ⟨k, h1, h2⟩ := least_nat (P := fun k => P (k : Int)) ⟨x.toNat, by have := h0 x hx; rwa [show ((x.toNat : Nat) : Int) = x by omega]⟩
  refine ⟨k, h1, fun y hy => ?_⟩
  have h3 := h0 y hy
  have := h2 y.toNat (by rwa [show ((y.toNat : Nat) : Int) = y by omega])
  omega
theorem best_exists (hr : ∀ u v, adj es u v → 0 ≤ v) (hb : b ∉ away) : ∀ (k : Nat) (v : Int), dist es away b v = k + 1 → ∃ p, Best es away b (dist es away b) v p
  | 0, v, h => by
    obtain rfl := (dist_far hb 0).only v h
    exact ⟨_, (dist_far hb 0).best_end⟩
  | k + 1, v, h => by
    obtain ⟨x, ⟨h1, h2⟩, h3⟩ := least_of (P := fun x => adj es v x ∧ dist es away b x + 1 = dist es away b v) (fun x hx => hr _ _ hx.1) ((dist_far hb 0).prev v (by omega))
    obtain ⟨p, hp⟩ := best_exists hr hb k x (by omega)
    exact ⟨_, (dist_far hb (k + 1)).best_step (by omega) (by omega) h1 h2 (fun y hy hd => h3 y ⟨hy, hd⟩) hp⟩
theorem ans_exists (hr : ∀ u v, adj es u v → 0 ≤ v) (hb : b ∉ away) : ∃ p, IsAns es away a b p := by
  rcases Nat.eq_zero_or_pos (dist es away b a) with h | h
  · refine ⟨[], .inr ⟨rfl, fun q hq => ?_⟩⟩
    have := (dist_le hq).1; omega
  · obtain ⟨p, hp⟩ := best_exists hr hb (dist es away b a - 1) a (by omega)
    exact ⟨p, .inl ((dist_far hb (dist es away b a)).best_route (by omega) hp)⟩
/-! ### turned round -/
theorem Pth.rev : ∀ {p : List Int} {a : Int}, Pth es away b a p → Pth es away a b p.reverse
  | [x], a, h => by obtain ⟨rfl, rfl, h3⟩ := h; exact ⟨rfl, rfl, h3⟩
  | x :: y :: l, a, h => by
    obtain ⟨rfl, h2, h3, h4⟩ := h
    rw [List.reverse_cons]
    exact (Pth.rev h4).snoc h2 h3.symm
theorem ans_len {p q : List Int} (h : IsAns es away a b p) (k : IsAns es away b a q) : p.length = q.length := by
  rcases h with h | ⟨rfl, h⟩ <;> rcases k with k | ⟨rfl, k⟩
  · have h1 := h.2 _ k.1.rev
    have h2 := k.2 _ h.1.rev
    rw [List.length_reverse] at h1 h2
    rcases h1 with h1 | ⟨h1, _⟩ <;> rcases h2 with h2 | ⟨h2, _⟩ <;> omega
  · exact absurd h.1.rev (k _)
  · exact absurd k.1.rev (h _)
  · rfl
/-! ### ways on -/
theorem IsRoute.tail {v : Int} {l : List Int} (h : IsRoute es away a b (a :: l)) (h1 : adj es a v) (h2 : Pth es away b v l) : IsRoute es away v b l := by
  refine ⟨h2, fun q hq => ?_⟩
  rcases h.2 _ (hq.cons h.1.first h1) with k | ⟨k, k2⟩
  · simp only [List.length_cons] at k; exact .inl (by omega)
  · simp only [List.length_cons] at k
    exact .inr ⟨by omega, by simpa [le, lexLt] using k2⟩
theorem IsRoute.on : ∀ (i : Nat) {p : List Int} {a : Int}, IsRoute es away a b p → i < p.length → IsRoute es away (nth p i) b (p.drop i)
  | 0, p, a, h, _ => by
    rcases h.1.cases with ⟨rfl, _⟩ | ⟨v, l, rfl, _, _⟩
    · exact h
    · exact h
  | i + 1, p, a, h, hi => by
    rcases h.1.cases with ⟨rfl, _⟩ | ⟨v, l, rfl, h1, h2⟩
    · simp at hi
    · exact IsRoute.on i (h.tail h1 h2) (by simpa using hi)
theorem Pth.nth0 {p : List Int} (h : Pth es away b a p) : nth p 0 = a := by
  rcases h.cases with ⟨rfl, _⟩ | ⟨v, l, rfl, _, _⟩ <;> rfl
theorem IsRoute.lone : ∀ {p : List Int} {a : Int}, IsRoute es away a b p → p.Nodup
  | [], a, h => by simp
  | x :: l, a, h => by
    rcases h.1.cases with ⟨e, _⟩ | ⟨v, l', e, h1, h2⟩
    · simp only [List.cons.injEq] at e
      obtain ⟨rfl, rfl⟩ := e; simp
    · simp only [List.cons.injEq] at e
      obtain ⟨rfl, rfl⟩ := e
      refine List.nodup_cons.2 ⟨fun hx => ?_, (h.tail h1 h2).lone⟩
      obtain ⟨p', k1, k2⟩ := h2.from_mem hx
      have := k2.length_le
      rcases h.2 _ k1 with k | ⟨k, _⟩
      · simp only [List.length_cons] at k; omega
      · simp only [List.length_cons] at k; omega
theorem IsRoute.chord {p : List Int} (h : IsRoute es away a b p) {i k : Nat} (hik : i + 2 ≤ k) (hk : k < p.length) : ¬ adj es (nth p i) (nth p k) := by
  intro he
  have h1 := h.on i (by omega)
  have h2 := h.on k hk
  have h3 := h1.2 _ (h2.1.cons h1.1.first he)
  simp only [List.length_cons, List.length_drop] at h3
  rcases h3 with h3 | ⟨h3, _⟩ <;> omega
theorem Pth.step : ∀ {p : List Int} {a : Int}, Pth es away b a p → ∀ i, i + 1 < p.length → adj es (nth p i) (nth p (i + 1))
  | [x], a, h, i, hi => by simp at hi
  | x :: y :: l, a, h, 0, hi => by
    obtain ⟨rfl, _, h3, _⟩ := h
    exact h3
  | x :: y :: l, a, h, i + 1, hi => Pth.step h.2.2.2 i (by simpa using hi)
theorem Pth.end' : ∀ {p : List Int} {a : Int}, Pth es away b a p → nth p (p.length - 1) = b
  | [x], a, h => by obtain ⟨rfl, rfl, _⟩ := h; rfl
  | x :: y :: l, a, h => by
    have := Pth.end' h.2.2.2
    simpa [nth] using this
/-! ### what the code's answer is -/
theorem adj_range {n : Int} (hR : RightG n es) {u v : Int} (h : adj es u v) : 0 ≤ v ∧ v < n := by
  rcases h with h | h
  · have := hR.mem h; omega
  · have := hR.mem h; omega
section
variable {n : Int} (hR : RightG n es) (ha : 0 ≤ a ∧ a < n) (hb : 0 ≤ b ∧ b < n)
include hR ha hb
theorem routeP_ans : IsAns es away a b (routeP n es a b away) := by
  by_cases h : a ∉ away ∧ b ∉ away
  · have hx : ∃ p, IsAns es away a b p := ans_exists (fun u v k => (adj_range hR k).1) h.2
    obtain ⟨p, hp⟩ := hx
    rw [routeP_eq ⟨hR, ha.1, hb.1, ha.2, hb.2, h.1, h.2⟩ hp]
    exact hp
  · rw [routeP_nil (fun k => h ⟨k.2.2.2.2.2.1, k.2.2.2.2.2.2⟩)]
    refine .inr ⟨rfl, fun q hq => h ⟨hq.first, hq.last⟩⟩
theorem routeP_back : (routeP n es a b away).length = (routeP n es b a away).length := ans_len (routeP_ans hR ha hb) (routeP_ans hR hb ha)
theorem routeP_route (h : 0 < (routeP n es a b away).length) : IsRoute es away a b (routeP n es a b away) := by
  rcases routeP_ans (es := es) (away := away) (a := a) (b := b) hR ha hb with k | ⟨k, _⟩
  · exact k
  · rw [k] at h; simp at h
theorem route_path {p : List Int} (h : IsRoute es away a b p) : PathG n es p ∧ nth p 0 = a ∧ nth p (p.length - 1) = b ∧ (∀ i, i < p.length → nth p i ∉ away ∧ routeP n es (nth p i) b away = p.drop i) ∧ ∀ i k, i + 2 ≤ k → k < p.length → ¬ HasG n es (nth p i) (nth p k) := by
  have hin : ∀ i, i < p.length → 0 ≤ nth p i ∧ nth p i < n := fun i hi => by
    cases i with
    | zero => rw [h.1.nth0]; exact ha
    | succ i => exact adj_range hR (h.1.step i hi)
  refine ⟨⟨hR, h.1.pos, h.lone, fun i hi => ⟨(hin i hi).1, (hin i hi).2, fun h0 => ?_⟩⟩, h.1.nth0, h.1.end', fun i hi => ?_, fun i k hik hk hh => h.chord hik hk hh.2⟩
  · obtain ⟨j, rfl⟩ : ∃ j, i = j + 1 := ⟨i - 1, by omega⟩
    exact ⟨hR, h.1.step j hi⟩
  · have h1 := h.on i hi
    have hi2 := hin i hi
    exact ⟨h1.1.first, routeP_eq ⟨hR, hi2.1, hb.1, hi2.2, hb.2, h1.1.first, h.1.last⟩ (.inl h1)⟩
end
end Go.Proofs.Ytngglgkemonibaa.L
