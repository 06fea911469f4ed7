/- B: what session 1 proved of graph.Has and walk.unlike, as contracts on trees. -/
import Derived.Test.YtngglgkemonibaaQ25
import Derived.Test.YtngglgkemonibaaQ34
import Derived.Test.YtngglgkemonibaaQ38
set_option linter.unusedVariables false
set_option linter.unusedSimpArgs false
set_option linter.unnecessarySimpa false
namespace Go.Proofs.Ytngglgkemonibaa.B
open Go Go.RowKit Go.Proofs.Ytngglgkemonibaa.L Go.Proofs.YtngglgkemonibaaW.PrintWords
set_option linter.unusedVariables false
set_option maxRecDepth 100000
set_option maxHeartbeats 2000000
theorem map1 {α β : Type} {f : α → β} {l : List α} {a : β} (h : l.map f = [a]) : ∃ x, l = [x] ∧ f x = a := by
  cases l with
  | nil => cases h
  | cons x l => cases l with
    | nil => simp only [List.map_cons, List.map_nil, List.cons.injEq, and_true] at h; exact ⟨x, rfl, h⟩
    | cons y l => simp at h
theorem mapS {α β : Type} {f : α → β} {l : List α} {a : β} {m : List β} (h : l.map f = a :: m) : ∃ x l', l = x :: l' ∧ f x = a ∧ l'.map f = m := by
  cases l with
  | nil => cases h
  | cons x l => simp only [List.map_cons, List.cons.injEq] at h; exact ⟨x, l, rfl, h.1, h.2⟩
theorem map2 {α β : Type} {f : α → β} {l : List α} {a b : β} (h : l.map f = [a, b]) : ∃ x y, l = [x, y] ∧ f x = a ∧ f y = b := by
  obtain ⟨x, l', rfl, h1, h2⟩ := mapS h
  obtain ⟨y, rfl, h3⟩ := map1 h2
  exact ⟨x, y, rfl, h1, h3⟩
theorem map3 {α β : Type} {f : α → β} {l : List α} {a b c : β} (h : l.map f = [a, b, c]) : ∃ x y z, l = [x, y, z] ∧ f x = a ∧ f y = b ∧ f z = c := by
  obtain ⟨x, l', rfl, h1, h2⟩ := mapS h
  obtain ⟨y, z, rfl, h3, h4⟩ := map2 h2
  exact ⟨x, y, z, rfl, h1, h3, h4⟩
theorem row_ints : ∀ {row : List GC} {l : List Int}, eraseL row = IL l → row.length = l.length ∧ ∀ (i : Nat) (c : GC), row[i]? = some c → ∃ x, l[i]? = some x ∧ c = Cell.sc (.int .i64 x)
  | [], [], _ => ⟨rfl, by simp⟩
  | [], x :: l, h => by simp [eraseL, IL] at h
  | c :: row, [], h => by simp [eraseL, IL] at h
  | c :: row, x :: l, h => by
    have h' : c.erase = .sc (.int .i64 x) ∧ eraseL row = IL l := by simpa [eraseL, IL] using h
    obtain ⟨h1, h2⟩ := row_ints h'.2
    refine ⟨by simp [h1], ?_⟩
    intro i d hd
    cases i with
    | zero =>
      simp only [List.getElem?_cons_zero, Option.some.injEq] at hd
      subst hd
      refine ⟨x, rfl, ?_⟩
      cases c <;> simp_all [Cell.erase]
    | succ i => exact h2 i d hd
theorem row_edges : ∀ {row : List GC} {l : List (Int × Int)}, eraseL row = EL l → row.length = l.length * 2 ∧ ∀ (i : Nat) (e : Int × Int), l[i]? = some e → row[i * 2]? = some (Cell.sc (.int .i64 e.1)) ∧ row[i * 2 + 1]? = some (Cell.sc (.int .i64 e.2))
  | [], [], _ => ⟨rfl, by simp⟩
  | [], x :: l, h => by simp [eraseL, EL] at h
  | c :: row, [], h => by simp [eraseL, EL] at h
  | [c], x :: l, h => by simp [eraseL, EL] at h
  | c :: d :: row, x :: l, h => by
    have h' : c.erase = .sc (.int .i64 x.1) ∧ d.erase = .sc (.int .i64 x.2) ∧ eraseL row = EL l := by simpa [eraseL, EL] using h
    obtain ⟨h1, h2⟩ := row_edges h'.2.2
    refine ⟨by simp [h1]; omega, ?_⟩
    intro i e he
    cases i with
    | zero =>
      simp only [List.getElem?_cons_zero, Option.some.injEq] at he
      subst he
      refine ⟨?_, ?_⟩
      · have := h'.1; cases c <;> simp_all [Cell.erase]
      · have := h'.2.1; cases d <;> simp_all [Cell.erase]
    | succ i =>
      obtain ⟨h3, h4⟩ := h2 i e he
      rw [show (i + 1) * 2 = i * 2 + 1 + 1 by omega]
      exact ⟨h3, h4⟩
/-- A frozen slice of numbers in memory. -/
theorem ints_cell {w : World} {n0 : Nat} {c : GC} {l : List Int} (hc : c.erase = .sl false 1 () (IL l)) (hh : holds w n0 c) (hl : l.length ≤ 9223372036854775807) :
    ∃ A cap, c.val = .slice A l.length cap ∧ l.length ≤ cap ∧ Kd.C (Kd.int .i64) w A l.length l := by
  cases c with
  | sl o sz g row =>
    simp only [Cell.erase, Cell.sl.injEq] at hc
    obtain ⟨rfl, rfl, _, hrow⟩ := hc
    obtain ⟨hlen, hget⟩ := row_ints hrow
    obtain ⟨⟨_, _, hcap, _⟩, hbase, hrows⟩ := hh
    refine ⟨g.a, g.cap, by simp [Cell.val, hlen], by simpa [hlen] using hcap, rfl, hl, fun hn => ?_⟩
    cases ha : g.a with
    | none => rw [ha] at hbase; obtain ⟨h1, _⟩ := hbase; subst h1; simp at hlen; omega
    | some a =>
      rw [ha] at hbase
      obtain ⟨_, h2, _⟩ := hbase
      refine ⟨a, rfl, fun j p hj => ⟨[.int .i64 p], rfl, rfl, fun i u hu => ?_⟩⟩
      cases i with
      | succ i => simp at hu
      | zero =>
        simp only [List.getElem?_cons_zero, Option.some.injEq] at hu
        subst hu
        have hjl : j < row.length := by rw [hlen]; exact (List.getElem?_eq_some_iff.1 hj).1
        obtain ⟨x, hx, hcx⟩ := hget j _ (List.getElem?_eq_getElem hjl)
        obtain ⟨v, hv, hd⟩ := h2 j _ (List.getElem?_eq_getElem hjl)
        rw [hcx] at hd
        rw [hj] at hx
        obtain rfl := Option.some.inj hx
        rcases hd with hd | hd
        · cases hd
        · show w.cell? (a.add (j * 1 + 0)) = _
          rw [show j * 1 + 0 = j by omega, hv, hd]; rfl
  | _ => simp [Cell.erase] at hc
/-- Edges as session 1 has them. -/
def toS (es : List (Int × Int)) : List P.S46 := es.map fun e => ⟨e.1, e.2⟩
theorem ed_toS (es : List (Int × Int)) : P.ed (toS es) = es := by
  unfold P.ed toS
  rw [List.map_map]
  exact List.map_id es
theorem len_toS (es : List (Int × Int)) : (toS es).length = es.length := by simp [toS]
theorem edges_cell {w : World} {n0 : Nat} {c : GC} {es : List (Int × Int)} (hc : c.erase = .sl false 2 () (EL es)) (hh : holds w n0 c) (hl : es.length ≤ 9223372036854775807) :
    ∃ A cap, c.val = .slice A (toS es).length cap ∧ (toS es).length ≤ cap ∧ Kd.C P.k46 w A (toS es).length (toS es) := by
  cases c with
  | sl o sz g row =>
    simp only [Cell.erase, Cell.sl.injEq] at hc
    obtain ⟨rfl, rfl, _, hrow⟩ := hc
    obtain ⟨hlen, hget⟩ := row_edges hrow
    obtain ⟨⟨_, _, hcap, _⟩, hbase, hrows⟩ := hh
    rw [len_toS]
    refine ⟨g.a, g.cap, by simp [Cell.val, hlen], by have := hcap; rw [hlen] at this; omega, len_toS es, hl, fun hn => ?_⟩
    cases ha : g.a with
    | none => rw [ha] at hbase; obtain ⟨h1, _⟩ := hbase; subst h1; simp at hlen; omega
    | some a =>
      rw [ha] at hbase
      obtain ⟨_, h2, _⟩ := hbase
      refine ⟨a, rfl, fun j p hj => ?_⟩
      unfold toS at hj
      rw [List.getElem?_map] at hj
      cases he : es[j]? with
      | none => rw [he] at hj; cases hj
      | some e =>
        rw [he] at hj
        simp only [Option.map_some, Option.some.injEq] at hj
        subst hj
        obtain ⟨g1, g2⟩ := hget j e he
        refine ⟨[.int .i64 e.1, .int .i64 e.2], rfl, P.k46_mk w _, fun i u hu => ?_⟩
        obtain ⟨v1, hv1, hd1⟩ := h2 _ _ g1
        obtain ⟨v2, hv2, hd2⟩ := h2 _ _ g2
        have hd1 := hd1.resolve_left (by simp [Cell.isDead])
        have hd2 := hd2.resolve_left (by simp [Cell.isDead])
        cases i with
        | zero =>
          simp only [List.getElem?_cons_zero, Option.some.injEq] at hu
          subst hu
          rw [hd1] at hv1; exact hv1
        | succ i => cases i with
          | zero =>
            simp only [List.getElem?_cons_succ, List.getElem?_cons_zero, Option.some.injEq] at hu
            subst hu
            rw [hd2] at hv2; exact hv2
          | succ i => simp at hu
  | _ => simp [Cell.erase] at hc
theorem bare_ints {g : Kd × List GC} {l : List Int} (h : bare g.1 g.2 = ints l) : ∃ c, g = (.one, [c]) ∧ c.erase = .sl false 1 () (IL l) := by
  obtain ⟨k, cs⟩ := g
  simp only [bare, SV.mk.injEq] at h
  obtain ⟨rfl, h⟩ := h
  obtain ⟨c, rfl, h⟩ := map1 h
  exact ⟨c, rfl, by simpa using h⟩
theorem bare_int {g : Kd × List GC} {n : Int} (h : bare g.1 g.2 = iv n) : g = (.one, [.sc (.int .i64 n)]) := by
  obtain ⟨k, cs⟩ := g
  simp only [bare, SV.mk.injEq] at h
  obtain ⟨rfl, h⟩ := h
  obtain ⟨c, rfl, h⟩ := map1 h
  cases c <;> simp_all [Cell.erase]
theorem bare_gr {g : Kd × List GC} {n : Int} {es : List (Int × Int)} (h : bare g.1 g.2 = gr n es) : ∃ c, g = (.agg, [.sc (.int .i64 n), c]) ∧ c.erase = .sl false 2 () (EL es) := by
  obtain ⟨k, cs⟩ := g
  simp only [bare, SV.mk.injEq] at h
  obtain ⟨rfl, h⟩ := h
  obtain ⟨c, d, rfl, h1, h2⟩ := map2 h
  refine ⟨d, ?_, by simpa using h2⟩
  cases c <;> simp_all [Cell.erase]
theorem bool_ans {w w' : World} {e : Ending} {b : Bool} (h : e = .returned (.bool b) ∧ Below w.heap.size w w') : ∃ k cs, bare k cs = bv b ∧ e = .returned (pack k (cs.map Cell.val)) ∧ Below w.heap.size w w' ∧ holdsL w' w.heap.size cs ∧ (footL cs).Nodup ∧ ∀ c ∈ cs, c.isDead = false :=
  ⟨.one, [.sc (.bool b)], rfl, h.1, h.2, ⟨rfl, trivial⟩, by simp [footL, foot], by simp [Cell.isDead]⟩
theorem right_eq (n : Int) (es : List (Int × Int)) : G.Right n es ↔ RightG n es := by
  constructor
  · intro h
    exact ⟨⟨h.n0, h.n1, h.len⟩, fun i hi => by have := G.okAt_of_right h i hi; exact ⟨⟨this.1.1, this.1.2.2, this.1.2.1⟩, this.2⟩⟩
  · intro h
    exact G.right_of_okAt h.1.1 h.1.2.1 h.1.2.2 fun j hj => ⟨⟨(h.2 j hj).1.1, (h.2 j hj).1.2.2, (h.2 j hj).1.2.1⟩, (h.2 j hj).2⟩
theorem mem_nearSeq (a b : Int) : ∀ (es : List (Int × Int)), (∀ e ∈ es, e.1 < e.2) → es.Pairwise G.lt2 → (b ∈ P.nearSeq a (toS es) ↔ (a, b) ∈ es ∨ (b, a) ∈ es)
  | [], _, _ => by simp [P.nearSeq, toS]
  | (x, y) :: es, hlt, hs => by
    rw [List.pairwise_cons] at hs
    have ih := mem_nearSeq a b es (fun e he => hlt e (by simp [he])) hs.2
    have hxy := hlt (x, y) (by simp)
    simp only at hxy
    unfold P.nearSeq toS at ih ⊢
    rw [List.map_cons, List.takeWhile_cons]
    by_cases hx : x ≤ a
    · rw [if_pos (by simpa using hx), List.flatMap_cons, List.mem_append, ih]
      simp only [P.nearOne, List.mem_append, List.mem_cons, Prod.mk.injEq]
      constructor
      · rintro ((h | h) | h | h)
        · split at h
          · next e => simp only [List.mem_singleton] at h; exact .inr (.inl ⟨h, e.symm⟩)
          · cases h
        · split at h
          · next e => simp only [List.mem_singleton] at h; exact .inl (.inl ⟨e.symm, h⟩)
          · cases h
        · exact .inl (.inr h)
        · exact .inr (.inr h)
      · rintro ((⟨h1, h2⟩ | h) | (⟨h1, h2⟩ | h))
        · exact .inl (.inr (by rw [if_pos h1.symm]; simp [h2]))
        · exact .inr (.inl h)
        · exact .inl (.inl (by rw [if_pos h2.symm]; simp [h1]))
        · exact .inr (.inr h)
    · rw [if_neg (by simpa using hx)]
      simp only [List.flatMap_nil, List.not_mem_nil, false_iff]
      rintro (h | h)
      · rcases List.mem_cons.1 h with h | h
        · simp only [Prod.mk.injEq] at h; omega
        · have := hs.1 _ h; unfold G.lt2 at this; simp only at this; omega
      · rcases List.mem_cons.1 h with h | h
        · simp only [Prod.mk.injEq] at h; omega
        · have := hs.1 _ h; have h3 := hlt (b, a) (by simp [h]); unfold G.lt2 at this; simp only at this h3; omega
theorem ok31 : SpecOk 31 spec31 := by
  intro us r h
  obtain ⟨x, y, z, g, a, b, rfl, hg, ha, hb, h⟩ := spec3_eq h
  obtain ⟨hl, rfl⟩ := when_eq h
  rw [asGr_eq hg, asInt_eq ha, asInt_eq hb]
  refine ⟨⟨_, Try.func31, rfl, by decide⟩, fun w gs hgs hh => ?_⟩
  obtain ⟨g1, g2, g3, rfl, e1, e2, e3⟩ := map3 hgs
  obtain ⟨c, rfl, hc⟩ := bare_gr e1
  obtain rfl := bare_int e2
  obtain rfl := bare_int e3
  have hhc := (hh _ (List.mem_cons_self)).1
  obtain ⟨A, cap, hv, hcap, hC⟩ := edges_cell hc hhc.2.1 (by omega)
  · have := P.graph_Has.calls g.1 A cap (toS g.2) a b (decide (HasG g.1 g.2 a b)) w hC hcap (by
      unfold P.graph_Has.f
      rw [ed_toS, Option.some.injEq, Bool.eq_iff_iff]
      simp only [Bool.and_eq_true, decide_eq_true_eq]
      rw [right_eq]
      constructor
      · rintro ⟨h1, h2⟩
        exact ⟨h1, (mem_nearSeq a b g.2 (fun e he => (h1.mem (a := e.1) (b := e.2) he).2.2) ((right_eq _ _).2 h1).sorted).1 h2⟩
      · rintro ⟨h1, h2⟩
        exact ⟨h1, (mem_nearSeq a b g.2 (fun e he => (h1.mem (a := e.1) (b := e.2) he).2.2) ((right_eq _ _).2 h1).sorted).2 h2⟩)
    have ea : (([(Kd.agg, [Cell.sc (.int .i64 g.1), c]), (.one, [.sc (.int .i64 a)]), (.one, [.sc (.int .i64 b)])] : List (Kd × List GC)).map fun g => pack g.1 (g.2.map Cell.val)).toArray = #[.agg #[.int .i64 g.1, .slice A (toS g.2).length cap], .int .i64 a, .int .i64 b] := by rw [← hv]; rfl
    rw [ea]
    refine this.mono ?_
    intro e w' h
    exact bool_ans h
theorem ok33 : SpecOk 33 spec33 := by
  intro us r h
  obtain ⟨x, l, rfl, hl, h⟩ := spec1_eq h
  obtain ⟨hlen, rfl⟩ := when_eq h
  rw [asInts_eq hl]
  refine ⟨⟨_, Try.func33, rfl, by decide⟩, fun w gs hgs hh => ?_⟩
  obtain ⟨g1, rfl, e1⟩ := map1 hgs
  obtain ⟨c, rfl, hc⟩ := bare_ints e1
  have hhc := (hh _ (List.mem_cons_self)).1
  obtain ⟨A, cap, hv, hcap, hC⟩ := ints_cell hc hhc.1 (by omega)
  · have := P.walk_unlike.calls A cap l (decide l.Nodup) w hC hcap (by unfold P.walk_unlike.f; rw [if_pos (by omega)])
    have ea : (([(Kd.one, [c])] : List (Kd × List GC)).map fun g => pack g.1 (g.2.map Cell.val)).toArray = #[.slice A l.length cap] := by rw [← hv]; rfl
    rw [ea]
    refine this.mono ?_
    intro e w' h
    exact bool_ans h
end Go.Proofs.Ytngglgkemonibaa.B
