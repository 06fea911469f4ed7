/- Pl: plain facts of rows (for Rim: without what is reached). T47: carcanetref03.Normal, of edges in range. Nm: what Normal answers is a right graph. T29: carcanetref03.Any and Of. T18: carcanetref03.Of. -/
import Derived.Test.YtnmocjhpbobahaaQ24
import Derived.Test.YtnmocjhpbobahaaQ25
import Derived.Test.YtnmocjhpbobahaaQ8
import Derived.Test.YtnmocjhpbobahaaQ9
set_option linter.unusedVariables false
set_option linter.unusedSimpArgs false
set_option linter.unnecessarySimpa false
namespace Go.Proofs.Ytnmocjhpbobahaa.L
open Go Go.RowKit
def Adj (es : List (Int × Int)) (a b : Int) : Prop := (a, b) ∈ es ∨ (b, a) ∈ es
instance (es : List (Int × Int)) (a b : Int) : Decidable (Adj es a b) := by unfold Adj; infer_instance
theorem Adj.symm {es : List (Int × Int)} {a b : Int} (h : Adj es a b) : Adj es b a := h.elim .inr .inl
theorem mem_insR {x y : Int} {a : List Int} : x ∈ insR y a ↔ x = y ∨ x ∈ a := by
  unfold insR
  constructor
  · intro h
    rcases List.mem_append.1 h with h | h
    · exact .inr (List.mem_of_mem_take h)
    · rcases List.mem_cons.1 h with h | h
      · exact .inl h
      · exact .inr (List.mem_of_mem_drop h)
  · intro h
    rcases h with rfl | h
    · simp
    · rw [← List.take_append_drop (posU y a a.length) a] at h
      rcases List.mem_append.1 h with h | h
      · exact List.mem_append.2 (.inl h)
      · exact List.mem_append.2 (.inr (List.mem_cons.2 (.inr h)))
theorem len_insR (y : Int) (a : List Int) : (insR y a).length = a.length + 1 := by
  unfold insR
  have : (a.take (posU y a a.length) ++ a.drop (posU y a a.length)).length = a.length := by rw [List.take_append_drop]
  simp only [List.length_append, List.length_cons] at this ⊢
  omega
theorem mem_fold (l : List Int) : ∀ (a : List Int) (x : Int), x ∈ l.foldl (fun a x => insR x a) a ↔ x ∈ l ∨ x ∈ a := by
  induction l with
  | nil => simp
  | cons y l ih => 
    intro a x; rw [List.foldl_cons, ih, mem_insR, List.mem_cons]
    constructor
    · rintro (h | h | h)
      · exact .inl (.inr h)
      · exact .inl (.inl h)
      · exact .inr h
    · rintro ((h | h) | h)
      · exact .inr (.inl h)
      · exact .inl h
      · exact .inr (.inr h)
theorem mem_sortR {l : List Int} {x : Int} : x ∈ sortR l ↔ x ∈ l := by unfold sortR; rw [mem_fold]; simp
theorem len_fold (l : List Int) : ∀ a : List Int, (l.foldl (fun a x => insR x a) a).length = l.length + a.length := by
  induction l with
  | nil => simp
  | cons y l ih => intro a; rw [List.foldl_cons, ih, len_insR, List.length_cons]; omega
theorem len_sortR (l : List Int) : (sortR l).length = l.length := by unfold sortR; rw [len_fold]; simp
end Go.Proofs.Ytnmocjhpbobahaa.L
namespace Go.Proofs.Ytnmocjhpbobahaa.L
open Go Go.RowKit
set_option maxRecDepth 100000
set_option maxHeartbeats 4000000
abbrev E47 : Env := ext (ext env0 66 spec26) 67 spec55
def stepU (up : List (List Int)) (e : Int × Int) : List (List Int) :=
  if e.1 ≠ e.2 ∧ max e.1 e.2 ∉ nthR up (min e.1 e.2).toNat then up.set (min e.1 e.2).toNat (nthR up (min e.1 e.2).toNat ++ [max e.1 e.2]) else up
def upU (n : Nat) (l : List (Int × Int)) : List (List Int) := l.foldl stepU (List.replicate n [])
theorem nthR_setU {up : List (List Int)} {i j : Nat} {r : List Int} (hi : i < up.length) : nthR (up.set i r) j = if i = j then r else nthR up j := by
  unfold nthR
  rw [List.getD_eq_getElem?_getD, List.getD_eq_getElem?_getD, List.getElem?_set]
  split
  · next h => subst h; simp [hi]
  · rfl
theorem nthR_repU (n j : Nat) : nthR (List.replicate n []) j = [] := by
  unfold nthR; rw [List.getD_eq_getElem?_getD, List.getElem?_replicate]; split <;> rfl
/-- What the rows of neighbours above hold. -/
structure UpOk (n : Nat) (k : Nat) (up : List (List Int)) : Prop where
  len : up.length = n
  short : ∀ j, (nthR up j).length ≤ k
  nd : ∀ j, (nthR up j).Nodup
  range : ∀ j x, x ∈ nthR up j → (j : Int) < x ∧ x < n
  total : (up.map List.length).sum ≤ k
theorem sum_set (x : Int) : ∀ (up : List (List Int)) (i : Nat), i < up.length → ((up.set i (nthR up i ++ [x])).map List.length).sum = (up.map List.length).sum + 1
  | [], i, h => by simp at h
  | r :: up, 0, _ => by simp [nthR]; omega
  | r :: up, i + 1, h => by
    have := sum_set x up i (by simpa using h)
    have e : nthR (r :: up) (i + 1) = nthR up i := by simp [nthR]
    rw [e, List.set_cons_succ, List.map_cons, List.sum_cons, this, List.map_cons, List.sum_cons]; omega
theorem stepU_ok {n k : Nat} {up : List (List Int)} {e : Int × Int} (h : UpOk n k up) (h1 : 0 ≤ e.1 ∧ e.1 < n) (h2 : 0 ≤ e.2 ∧ e.2 < n) : UpOk n (k + 1) (stepU up e) := by
  unfold stepU
  split
  · next hc =>
    have hL : (min e.1 e.2).toNat < up.length := by rw [h.len]; omega
    refine ⟨by simpa using h.len, fun j => ?_, fun j => ?_, fun j x hx => ?_, by rw [sum_set _ _ _ hL]; have := h.total; omega⟩
    · rw [nthR_setU hL]
      split
      · have := h.short (min e.1 e.2).toNat; simp; omega
      · have := h.short j; omega
    · rw [nthR_setU hL]
      split
      · rw [List.nodup_append]
        exact ⟨h.nd _, by simp, fun a ha b hb => by rw [List.mem_singleton.1 hb]; exact fun e => hc.2 (e ▸ ha)⟩
      · exact h.nd j
    · rw [nthR_setU hL] at hx
      split at hx
      · next hj =>
        rcases List.mem_append.1 hx with hx | hx
        · rw [← hj]; exact h.range _ x hx
        · rw [List.mem_singleton] at hx
          have := hc.1
          omega
      · exact h.range j x hx
  · exact ⟨h.len, fun j => by have := h.short j; omega, h.nd, h.range, by have := h.total; omega⟩
/-- The edges, row by row. -/
def edgesTo (up : List (List Int)) (k : Nat) : List (Int × Int) := ((List.range k).map fun a => (sortR (nthR up a)).map fun b => ((a : Int), b)).flatten
theorem edgesTo_succ (up : List (List Int)) (k : Nat) : edgesTo up (k + 1) = edgesTo up k ++ (sortR (nthR up k)).map fun b => ((k : Int), b) := by
  unfold edgesTo; rw [List.range_succ, List.map_append, List.flatten_append]; simp
theorem edgesTo_len (up : List (List Int)) : ∀ k, k ≤ up.length → (edgesTo up k).length = ((up.take k).map List.length).sum
  | 0, _ => by simp [edgesTo]
  | k + 1, h => by
    rw [edgesTo_succ, List.length_append, edgesTo_len up k (by omega), nthR_take (by omega), List.length_map, len_sortR]; simp
theorem sum_take_le : ∀ (l : List Nat) (k : Nat), (l.take k).sum ≤ l.sum
  | [], k => by simp
  | x :: l, 0 => by simp
  | x :: l, k + 1 => by have := sum_take_le l k; simp only [List.take_succ_cons, List.sum_cons]; omega
abbrev gbo (n : Int) (es : List (Int × Int)) : SV Unit := ⟨.one, [.c (.bx true () [.sc (.int .i64 n), .sl true 2 () (EL es)])]⟩
/-- What Normal answers: a graph of one's own, and no error. -/
abbrev normR (n : Int) (es : List (Int × Int)) : SV Unit := ⟨.tup [some 2, none], [.c (.sc (.int .i64 n)), .c (.sl true 2 () (EL es)), .c (.sc (.int .i64 0))]⟩
theorem w47 (n : Nat) (l : List (Int × Int)) (hn : n ≤ 1000) (hl : l.length ≤ 300) (hr : ∀ i, i < l.length → (0 ≤ (ent l i).1 ∧ (ent l i).1 < n) ∧ 0 ≤ (ent l i).2 ∧ (ent l i).2 < n) : ∃ c, Try.f49.body = some c ∧ RP (regOf Try.prog E47 120 u49) c (argsSt 0 [iv n, ⟨.one, [.c (.sl false 2 () (EL l))]⟩]) (endsAs Try.prog Try.f49 (normR n (edgesTo (upU n l) n))) := by
  refine ⟨_, rfl, ?_⟩
  generalize hQ : endsAs Try.prog Try.f49 (normR n (edgesTo (upU n l) n)) = Q
  simp only [argsSt]
  refine go ?_
  refine RP.mono (Q := fun e σ => e = .exit 0 ∧ UpOk n l.length (upU n l) ∧ σ = [(0, iv n), (1, ⟨.one, [.c (.sl false 2 () (EL l))]⟩), (4, ⟨.one, [.c (.bx true () [.sc (.int .i64 0), .sl true 2 () []])]⟩), (6, orows (upU n l)), (7, iv l.length), (26, bv false)]) ?_ ?_
  · apply rp_loop (fun k σ => ∃ (i : Nat) (up : List (List Int)), i ≤ l.length ∧ k = l.length - i ∧ up = upU n (l.take i) ∧ UpOk n i up ∧ σ = [(0, iv n), (1, ⟨.one, [.c (.sl false 2 () (EL l))]⟩), (4, ⟨.one, [.c (.bx true () [.sc (.int .i64 0), .sl true 2 () []])]⟩), (6, orows up), (7, iv i)]) l.length
    · exact ⟨0, _, by omega, by omega, rfl, ⟨by simp [upU], fun j => by simp [upU, nthR_repU], fun j => by simp [upU, nthR_repU], fun j x hx => by simp [upU, nthR_repU] at hx, by simp [upU]⟩, rfl⟩
    rintro k σ ⟨i, up, hi, rfl, hup, hok, rfl⟩
    by_cases hil : i < l.length
    case neg =>
      obtain rfl : i = l.length := by omega
      rw [List.take_length] at hup
      rw [hup] at hok ⊢
      refine go ?_
      exact ⟨rfl, hok, rfl⟩
    obtain ⟨hp, hq⟩ := hr i hil
    have hnext : stepU up (ent l i) = upU n (l.take (i + 1)) := by rw [hup]; unfold upU; rw [ent_take hil, List.foldl_append]; rfl
    have hok' := stepU_ok hok hp hq
    have hul := hok.len
    have hsh := hok.short (min (ent l i).1 (ent l i).2).toNat
    clear hup hok
    unfold stepU at hnext hok'
    refine go ?_
    by_cases hpq : (ent l i).1 = (ent l i).2
    · rw [if_neg (fun h => h.1 hpq)] at hnext hok'
      refine go ?_
      exact nxt (l.length - (i + 1)) (by omega) ⟨i + 1, _, by omega, by omega, hnext, hok', rfl⟩
    by_cases hin : max (ent l i).1 (ent l i).2 ∈ nthR up (min (ent l i).1 (ent l i).2).toNat
    · rw [if_neg (fun h => h.2 hin)] at hnext hok'
      refine go ?_
      exact nxt (l.length - (i + 1)) (by omega) ⟨i + 1, _, by omega, by omega, hnext, hok', rfl⟩
    · rw [if_pos ⟨hpq, hin⟩] at hnext hok'
      refine go ?_
      exact nxt (l.length - (i + 1)) (by omega) ⟨i + 1, _, by omega, by omega, hnext, hok', rfl⟩
  rintro e σ ⟨rfl, hok, rfl⟩
  simp only [inBlock_exit, if_true, thenR_normal]
  have hul := hok.len
  have htot := hok.total
  have hel : ∀ k, k ≤ n → (edgesTo (upU n l) k).length ≤ 300 := by
    intro k hk
    have h1 := sum_take_le ((upU n l).map List.length) k
    rw [edgesTo_len _ k (by omega), List.map_take]
    omega
  have hsh := hok.short
  generalize upU n l = U at *
  refine go ?_
  refine RP.mono (Q := fun e σ => e = .exit 2 ∧ σ = [(0, iv n), (4, ⟨.one, [.c (.bx true () [.sc (.int .i64 0), .sl true 2 () []])]⟩), (6, orows U), (11, gbo n (edgesTo U n)), (12, iv n), (89, bv false)]) ?_ ?_
  · apply rp_loop (fun k σ => ∃ a : Nat, a ≤ n ∧ k = n - a ∧ σ = [(0, iv n), (4, ⟨.one, [.c (.bx true () [.sc (.int .i64 0), .sl true 2 () []])]⟩), (6, orows U), (11, gbo n (edgesTo U a)), (12, iv a)]) n
    · exact ⟨0, by omega, by omega, rfl⟩
    rintro k σ ⟨a, ha, rfl, rfl⟩
    by_cases hal : a < n
    case neg =>
      obtain rfl : a = n := by omega
      refine go ?_
      exact ⟨rfl, rfl⟩
    have hsa := hsh a
    have hsl := len_sortR (nthR U a)
    have hsucc := edgesTo_succ U a
    have hea := hel a ha
    refine go ?_
    have hsl' : (sortR (nthR U a)).length ≤ 300 := by omega
    generalize sortR (nthR U a) = row at *
    refine RP.mono (Q := fun e σ => e = .exit 4 ∧ σ = [(0, iv n), (4, ⟨.one, [.c (.bx true () [.sc (.int .i64 0), .sl true 2 () []])]⟩), (6, orows U), (11, gbo n (edgesTo U a ++ row.map fun b => ((a : Int), b))), (12, iv a), (13, ow row), (14, iv row.length), (100, bv false)]) ?_ ?_
    · apply rp_loop (fun k σ => ∃ j : Nat, j ≤ row.length ∧ k = row.length - j ∧ σ = [(0, iv n), (4, ⟨.one, [.c (.bx true () [.sc (.int .i64 0), .sl true 2 () []])]⟩), (6, orows U), (11, gbo n (edgesTo U a ++ (row.take j).map fun b => ((a : Int), b))), (12, iv a), (13, ow row), (14, iv j)]) row.length
      · exact ⟨0, by omega, by omega, by simp⟩
      rintro k σ ⟨j, hj, rfl, rfl⟩
      by_cases hjl : j < row.length
      case neg =>
        obtain rfl : j = row.length := by omega
        rw [List.take_length]
        refine go ?_
        exact ⟨rfl, rfl⟩
      have hst : (row.take (j + 1)).map (fun b => ((a : Int), b)) = (row.take j).map (fun b => ((a : Int), b)) ++ [((a : Int), nth row j)] := by rw [nth_take hjl]; simp
      have hgl : (edgesTo U a ++ (row.take j).map fun b => ((a : Int), b)).length ≤ 600 := by rw [List.length_append, List.length_map, List.length_take]; omega
      generalize hG : (edgesTo U a ++ (row.take j).map fun b => ((a : Int), b)) = G at *
      refine go ?_
      refine nxt (row.length - (j + 1)) (by omega) ⟨j + 1, by omega, by omega, ?_⟩
      rw [hst, ← List.append_assoc, hG]
      simp
    rintro e σ ⟨rfl, rfl⟩
    simp only [inBlock_exit, if_true, thenR_normal]
    refine go ?_
    refine nxt (n - (a + 1)) (by omega) ⟨a + 1, by omega, by omega, ?_⟩
    rw [hsucc]
    simp
  rintro e σ ⟨rfl, rfl⟩
  simp only [inBlock_exit, if_true, thenR_normal]
  have hen := hel n (Nat.le_refl n)
  generalize edgesTo U n = G at *
  refine go ?_
  show Q .ret _; refine fin_ret hQ rfl ?_
  rfl
end Go.Proofs.Ytnmocjhpbobahaa.L
namespace Go.Proofs.Ytnmocjhpbobahaa.L
open Go Go.RowKit
theorem pos_spec (x : Int) (a : List Int) : ∀ t, posU x a t ≤ t ∧ (∀ j, posU x a t ≤ j → j < t → x < nth a j) ∧ (0 < posU x a t → nth a (posU x a t - 1) ≤ x)
  | 0 => ⟨Nat.le_refl _, fun j h1 h2 => by omega, fun h => by simp [posU] at h⟩
  | t + 1 => by
    obtain ⟨h1, h2, h3⟩ := pos_spec x a t
    unfold posU
    by_cases h : a.getD t 0 > x
    · rw [if_pos h]
      refine ⟨by omega, fun j hj1 hj2 => ?_, h3⟩
      by_cases e : j = t
      · rw [e]; exact h
      · exact h2 j hj1 (by omega)
    · rw [if_neg h]
      exact ⟨Nat.le_refl _, fun j h1 h2 => by omega, fun _ => by show a.getD t 0 ≤ x; omega⟩
theorem insR_perm (x : Int) (a : List Int) : (insR x a).Perm (x :: a) := by
  unfold insR
  refine List.perm_middle.trans ?_
  rw [List.take_append_drop]
theorem insR_sorted {x : Int} {a : List Int} (h : a.Pairwise (· ≤ ·)) : (insR x a).Pairwise (· ≤ ·) := by
  obtain ⟨h1, h2, h3⟩ := pos_spec x a a.length
  unfold insR
  generalize posU x a a.length = p at *
  have hp := List.pairwise_iff_getElem.1 h
  have hlo : ∀ y ∈ a.take p, y ≤ x := by
    intro y hy
    obtain ⟨j, hj, rfl⟩ := List.getElem_of_mem hy
    rw [List.length_take] at hj
    rw [List.getElem_take]
    have := h3 (by omega)
    rw [nth_eq (by omega)] at this
    by_cases e : j = p - 1
    · subst e; exact this
    · exact Int.le_trans (hp j (p - 1) (by omega) (by omega) (by omega)) this
  have hhi : ∀ y ∈ a.drop p, x < y := by
    intro y hy
    obtain ⟨j, hj, rfl⟩ := List.getElem_of_mem hy
    rw [List.length_drop] at hj
    rw [List.getElem_drop, ← nth_eq]
    exact h2 _ (by omega) (by omega)
  rw [List.pairwise_append, List.pairwise_cons]
  refine ⟨h.sublist (List.take_sublist p a), ⟨fun y hy => Int.le_of_lt (hhi y hy), h.sublist (List.drop_sublist p a)⟩, fun y hy z hz => ?_⟩
  rcases List.mem_cons.1 hz with rfl | hz
  · exact hlo y hy
  · exact Int.le_trans (hlo y hy) (Int.le_of_lt (hhi z hz))
theorem fold_sorted (l : List Int) : ∀ a : List Int, a.Pairwise (· ≤ ·) → (l.foldl (fun a x => insR x a) a).Pairwise (· ≤ ·) := by
  induction l with
  | nil => exact fun a h => h
  | cons y l ih => exact fun a h => ih _ (insR_sorted h)
theorem sortR_sorted (l : List Int) : (sortR l).Pairwise (· ≤ ·) := fold_sorted l [] .nil
theorem fold_perm (l : List Int) : ∀ a : List Int, (l.foldl (fun a x => insR x a) a).Perm (l ++ a) := by
  induction l with
  | nil => exact fun a => .refl _
  | cons y l ih => exact fun a => (ih _).trans ((List.Perm.append_left l (insR_perm y a)).trans List.perm_middle)
theorem sortR_perm (l : List Int) : (sortR l).Perm l := by have := fold_perm l []; rwa [List.append_nil] at this
theorem sortR_lt {l : List Int} (h : l.Nodup) : (sortR l).Pairwise (· < ·) := by
  have h1 := sortR_sorted l
  have h2 : (sortR l).Nodup := (sortR_perm l).nodup_iff.2 h
  rw [List.Nodup] at h2
  exact (h1.and h2).imp fun h => by omega
theorem right_of {n : Int} {es : List (Int × Int)} (h0 : 0 ≤ n ∧ n ≤ 1000 ∧ es.length ≤ 4000) (h1 : ∀ e ∈ es, okE n e) (h2 : es.Pairwise ltE) : RightG n es := by
  refine ⟨h0, fun i hi => ?_⟩
  have e1 : es.getD i (0, 0) = es[i] := by simp [hi]
  rw [e1]
  refine ⟨h1 _ (List.getElem_mem hi), fun hp => ?_⟩
  have e2 : es.getD (i - 1) (0, 0) = es[i - 1] := by simp [show i - 1 < es.length by omega]
  rw [e2]
  exact List.pairwise_iff_getElem.1 h2 (i - 1) i (by omega) hi (by omega)
theorem edgesTo_right {n k : Nat} {U : List (List Int)} (h : UpOk n k U) (hn : n ≤ 1000) (hk : k ≤ 300) : RightG n (edgesTo U n) := by
  have hlen : (edgesTo U n).length ≤ 300 := by
    rw [edgesTo_len _ n (by rw [h.len]; exact Nat.le_refl n), List.map_take]
    have h1 := sum_take_le (U.map List.length) n
    have := h.total
    omega
  have key : ∀ m, m ≤ n → (∀ e ∈ edgesTo U m, okE n e ∧ e.1 < m) ∧ (edgesTo U m).Pairwise ltE := by
    intro m
    induction m with
    | zero => intro _; exact ⟨fun e he => by simp [edgesTo] at he, by simp [edgesTo]⟩
    | succ m ih =>
      intro hm
      obtain ⟨i1, i2⟩ := ih (by omega)
      have hrow : ∀ e ∈ (sortR (nthR U m)).map (fun b => ((m : Int), b)), okE n e ∧ e.1 = m := by
        intro e he
        obtain ⟨b, hb, rfl⟩ := List.mem_map.1 he
        have := h.range m b (mem_sortR.1 hb)
        exact ⟨⟨by show (0 : Int) ≤ m; omega, this.2, this.1⟩, rfl⟩
      rw [edgesTo_succ]
      refine ⟨fun e he => ?_, ?_⟩
      · rcases List.mem_append.1 he with he | he
        · have := i1 e he; exact ⟨this.1, by omega⟩
        · have := hrow e he; exact ⟨this.1, by omega⟩
      · rw [List.pairwise_append]
        refine ⟨i2, ?_, fun e he f hf => ?_⟩
        · rw [List.pairwise_map]
          exact (sortR_lt (h.nd m)).imp fun hlt => .inr ⟨rfl, hlt⟩
        · have h1 := (i1 e he).2
          have h2 := (hrow f hf).2
          exact .inl (by omega)
  obtain ⟨k1, k2⟩ := key n (Nat.le_refl n)
  exact right_of ⟨by omega, by omega, by omega⟩ (fun e he => (k1 e he).1) k2
theorem upF_ok (n : Nat) : ∀ (m : Nat) (l : List (Int × Int)), l.length = m → (∀ e ∈ l, (0 ≤ e.1 ∧ e.1 < n) ∧ 0 ≤ e.2 ∧ e.2 < n) → UpOk n l.length (upU n l) := by
  intro m
  induction m with
  | zero =>
    intro l hl _
    obtain rfl := List.eq_nil_of_length_eq_zero hl
    exact ⟨by simp [upU], fun j => by simp [upU, nthR_repU], fun j => by simp [upU, nthR_repU], fun j x hx => by simp [upU, nthR_repU] at hx, by simp [upU]⟩
  | succ m ih =>
    intro l hl hr
    have hne : l ≠ [] := by intro h; rw [h] at hl; simp at hl
    rw [← List.dropLast_concat_getLast hne]
    have h1 := ih l.dropLast (by rw [List.length_dropLast]; omega) (fun e he => hr e (List.dropLast_subset l he))
    have h2 := hr _ (List.getLast_mem hne)
    unfold upU at h1 ⊢
    rw [List.foldl_append, List.length_append]
    exact stepU_ok h1 h2.1 h2.2
/-- The edges of a graph that is made from anything. -/
def normE (n : Nat) (l : List (Int × Int)) : List (Int × Int) := edgesTo (upU n l) n
theorem normE_right {n : Nat} {l : List (Int × Int)} (hn : n ≤ 1000) (hl : l.length ≤ 300) (hr : ∀ e ∈ l, (0 ≤ e.1 ∧ e.1 < n) ∧ 0 ≤ e.2 ∧ e.2 < n) : RightG n (normE n l) :=
  edgesTo_right (upF_ok n l.length l rfl hr) hn hl
def asEs : SV Unit → Option (List (Int × Int))
  | ⟨.one, [.c (.sl false 2 () row)]⟩ => toEdges row
  | _ => none
abbrev ees (l : List (Int × Int)) : SV Unit := ⟨.one, [.c (.sl false 2 () (EL l))]⟩
@[simp] theorem asEs_ees (l : List (Int × Int)) : asEs (ees l) = some l := toEdges_EL l
theorem asEs_eq {v : SV Unit} {l : List (Int × Int)} (h : asEs v = some l) : v = ees l := by
  unfold asEs at h
  split at h
  · rw [toEdges_eq h]
  · cases h
def spec47 : Spec := spec2 asInt asEs fun n l => when ((0 ≤ n ∧ n ≤ 1000 ∧ l.length ≤ 300) ∧ ∀ e ∈ l, (0 ≤ e.1 ∧ e.1 < n) ∧ 0 ≤ e.2 ∧ e.2 < n) (normR n (normE n.toNat l))
theorem ok47 : SpecOk 49 spec47 := by
  intro us r h
  obtain ⟨x, y, n, l, rfl, hn, hl, h⟩ := spec2_eq h
  obtain ⟨⟨hb, hr⟩, rfl⟩ := when_eq h
  rw [asInt_eq hn, asEs_eq hl]
  obtain ⟨N, rfl⟩ : ∃ N : Nat, n = N := ⟨n.toNat, by omega⟩
  exact goodBy2 (ext_ok (ext_ok env0_ok ok26) ok55) Try.func49 rfl (Nat.le_of_ble_eq_true rfl) (by decide) (w47 N l (by omega) hb.2.2 (fun i hi => hr _ (by rw [ent_eq hi]; exact List.getElem_mem hi)))
@[simp] theorem s47 (n : Nat) (l : List (Int × Int)) (hn : n ≤ 1000) (hl : l.length ≤ 300) (hr : ∀ e ∈ l, (0 ≤ e.1 ∧ e.1 < n) ∧ 0 ≤ e.2 ∧ e.2 < n) : spec47 [iv n, ees l] = some (normR n (normE n l)) := by
  unfold spec47; rw [spec2_v (asInt_iv n) (asEs_ees l)]; exact when_pos _ ⟨⟨by omega, by omega, hl⟩, hr⟩
@[simp] theorem call47 {E : Env} {σ : St Unit} {t : Nat} {l : List Operand} : effCall Try.prog E ΩU σ t 49 l = callO E 49 t (argsOf Try.prog ΩU σ [3, 22] l) := eff_call Try.func49 Try.params49
end Go.Proofs.Ytnmocjhpbobahaa.L
namespace Go.Proofs.Ytnmocjhpbobahaa.L
open Go Go.RowKit
set_option maxRecDepth 100000
set_option maxHeartbeats 4000000
theorem and16 (a : Int) : ∃ m : Nat, m < 65536 ∧ andI a 65535 = (m : Int) := by
  have h : (BitVec.ofInt 64 a &&& BitVec.ofInt 64 65535).toNat < 65536 := by
    rw [BitVec.toNat_and]
    have : (BitVec.ofInt 64 65535).toNat = 65535 := by decide
    rw [this]
    exact Nat.lt_of_le_of_lt (Nat.and_le_right) (by decide)
  refine ⟨_, h, ?_⟩
  unfold andI
  rw [wrap_in _ (by omega)]
theorem and16_mod (a : Int) (n : Nat) (hn : 0 < n) : ∃ f : Nat, f < n ∧ (andI a 65535).tmod (n : Int) = (f : Int) := by
  obtain ⟨m, _, e⟩ := and16 a
  exact ⟨m % n, Nat.mod_lt _ hn, by rw [e]; rfl⟩
def anyE (n : Nat) (e : Int × Int) : Int × Int := ((andI e.1 65535).tmod n, (andI e.2 65535).tmod n)
def anyL (n : Nat) (l : List (Int × Int)) : List (Int × Int) := if n = 0 then [] else (l.take 300).map (anyE n)
attribute [simp] kdLen kdKd
/-- A graph of one's own, as a value. -/
abbrev gro (n : Int) (es : List (Int × Int)) : SV Unit := ⟨.agg, [.c (.sc (.int .i64 n)), .c (.sl true 2 () (EL es))]⟩
abbrev E29 : Env := ext env0 49 spec47
theorem w29 (n : Int) (l : List (Int × Int)) (most : Nat) (hm : most ≤ 900) (hl : l.length ≤ 17592186043904) (N : Nat) (hN : N ≤ most) (hNe : (andI n 65535).tmod ((most : Int) + 1) = N) : ∃ c, Try.f24.body = some c ∧ RP (regOf Try.prog E29 57 u24) c (argsSt 0 [iv n, ees l, iv most]) (endsAs Try.prog Try.f24 (gro N (normE N (anyL N l)))) := by
  refine ⟨_, rfl, ?_⟩
  generalize hQ : endsAs Try.prog Try.f24 (gro N (normE N (anyL N l))) = Q
  simp only [argsSt]
  refine go ?_
  rw [hNe]
  refine RP.mono (Q := fun e σ => e = .exit 0 ∧ ∃ i : Nat, σ = [(0, iv N), (1, ees l), (6, ⟨.one, [.c (.bx true () [.sc (.int .i64 0), .sl true 2 () []])]⟩), (7, ⟨.one, [.c (.sl true 2 () (EL (anyL N l)))]⟩), (8, iv i), (27, bv false)]) ?_ ?_
  · apply rp_loop (fun k σ => ∃ i : Nat, i ≤ l.length ∧ i ≤ 300 ∧ (N = 0 → i = 0) ∧ k = l.length - i ∧ σ = [(0, iv N), (1, ees l), (6, ⟨.one, [.c (.bx true () [.sc (.int .i64 0), .sl true 2 () []])]⟩), (7, ⟨.one, [.c (.sl true 2 () (EL ((l.take i).map (anyE N))))]⟩), (8, iv i)]) l.length
    · exact ⟨0, by omega, by omega, fun _ => rfl, by omega, rfl⟩
    rintro k σ ⟨i, hi, hi3, hN0, rfl, rfl⟩
    have hal : ((l.take i).map (anyE N)).length = i := by rw [List.length_map, List.length_take]; omega
    by_cases hgo : i < l.length ∧ i < 300 ∧ 0 < N
    case neg =>
      have hans : anyL N l = (l.take i).map (anyE N) := by
        unfold anyL
        by_cases h0 : N = 0
        · rw [if_pos h0, hN0 h0]; simp
        · rw [if_neg h0]
          by_cases h3 : i = 300
          · rw [h3]
          · rw [List.take_of_length_le (by omega : l.length ≤ i), List.take_of_length_le (by omega : l.length ≤ 300)]
      rw [hans]
      generalize (l.take i).map (anyE N) = A at *
      rcases (by omega : ¬ i < l.length ∨ (i < l.length ∧ ¬ i < 300) ∨ (i < l.length ∧ i < 300 ∧ N = 0)) with h | ⟨h, h'⟩ | ⟨h, h', h''⟩
      all_goals
        refine go ?_
        exact ⟨rfl, i, rfl⟩
    obtain ⟨g1, g2, g3⟩ := hgo
    have hst : (l.take (i + 1)).map (anyE N) = (l.take i).map (anyE N) ++ [((andI (ent l i).1 65535).tmod (N : Int), (andI (ent l i).2 65535).tmod (N : Int))] := by rw [ent_take g1]; simp [anyE]
    have hN1 : ¬ N = 0 := by omega
    generalize (l.take i).map (anyE N) = A at *
    refine go ?_
    exact nxt (l.length - (i + 1)) (by omega) ⟨i + 1, by omega, by omega, fun h => by omega, by omega, by rw [hst]; simp⟩
  rintro e σ ⟨rfl, i, rfl⟩
  simp only [inBlock_exit, if_true, thenR_normal]
  have hlen : (anyL N l).length ≤ 300 := by
    unfold anyL; split
    · simp
    · rw [List.length_map, List.length_take]; omega
  have hrange : ∀ e ∈ anyL N l, (0 ≤ e.1 ∧ e.1 < N) ∧ 0 ≤ e.2 ∧ e.2 < N := by
    unfold anyL; split
    · intro e he; cases he
    · next h0 =>
      intro e he
      obtain ⟨e', _, rfl⟩ := List.mem_map.1 he
      obtain ⟨f, hf, e1⟩ := and16_mod e'.1 N (by omega)
      obtain ⟨g, hg, e2⟩ := and16_mod e'.2 N (by omega)
      unfold anyE
      rw [e1, e2]
      simp only
      omega
  generalize anyL N l = L at *
  refine go ?_
  show Q .ret _; refine fin_ret hQ rfl ?_
  rfl
theorem anyL_ok (N : Nat) (l : List (Int × Int)) : (anyL N l).length ≤ 300 ∧ ∀ e ∈ anyL N l, (0 ≤ e.1 ∧ e.1 < N) ∧ 0 ≤ e.2 ∧ e.2 < N := by
  unfold anyL
  split
  · exact ⟨by simp, fun e he => by cases he⟩
  · next h0 =>
    refine ⟨by rw [List.length_map, List.length_take]; omega, fun e he => ?_⟩
    obtain ⟨e', _, rfl⟩ := List.mem_map.1 he
    obtain ⟨f, hf, e1⟩ := and16_mod e'.1 N (by omega)
    obtain ⟨g, hg, e2⟩ := and16_mod e'.2 N (by omega)
    unfold anyE
    rw [e1, e2]
    simp only
    omega
/-- How many vertices; which edges. -/
def anyN (n : Int) (most : Nat) : Nat := ((andI n 65535).tmod ((most : Int) + 1)).toNat
def anyEs (n : Int) (most : Nat) (l : List (Int × Int)) : List (Int × Int) := normE (anyN n most) (anyL (anyN n most) l)
theorem anyN_ok (n : Int) (most : Nat) : anyN n most ≤ most ∧ (andI n 65535).tmod ((most : Int) + 1) = anyN n most := by
  obtain ⟨f, hf, e⟩ := and16_mod n (most + 1) (by omega)
  rw [show ((most + 1 : Nat) : Int) = (most : Int) + 1 from rfl] at e
  unfold anyN
  rw [e]
  exact ⟨by rw [Int.toNat_natCast]; omega, by rw [Int.toNat_natCast]⟩
theorem any_right (n : Int) {most : Nat} (hm : most ≤ 900) (l : List (Int × Int)) : RightG (anyN n most) (anyEs n most l) :=
  normE_right (by have := (anyN_ok n most).1; omega) (anyL_ok _ l).1 (anyL_ok _ l).2
def spec29 : Spec := spec3 asInt asEs asInt fun n l m => when (l.length ≤ 17592186043904 ∧ 0 ≤ m ∧ m ≤ 900) (gro (anyN n m.toNat) (anyEs n m.toNat l))
theorem ok29 : SpecOk 24 spec29 := by
  intro us r h
  obtain ⟨x, y, z, n, l, m, rfl, hn, hl, hm, h⟩ := spec3_eq h
  obtain ⟨hb, rfl⟩ := when_eq h
  rw [asInt_eq hn, asEs_eq hl, asInt_eq hm]
  obtain ⟨M, rfl⟩ : ∃ M : Nat, m = M := ⟨m.toNat, by omega⟩
  exact goodBy2 (ext_ok env0_ok ok47) Try.func24 rfl (Nat.le_of_ble_eq_true rfl) (by decide) (w29 n l M (by omega) hb.1 (anyN n M) (anyN_ok n M).1 (anyN_ok n M).2)
theorem s29 (n : Int) (l : List (Int × Int)) (m : Nat) (hl : l.length ≤ 17592186043904) (hm : m ≤ 900) : spec29 [iv n, ees l, iv m] = some (gro (anyN n m) (anyEs n m l)) := by
  unfold spec29; rw [spec3_v (asInt_iv n) (asEs_ees l) (asInt_iv m)]; exact when_pos _ ⟨hl, by omega, by omega⟩
@[simp] theorem call29 {E : Env} {σ : St Unit} {t : Nat} {l : List Operand} : effCall Try.prog E ΩU σ t 24 l = callO E 24 t (argsOf Try.prog ΩU σ [3, 22, 3] l) := eff_call Try.func24 Try.params24
end Go.Proofs.Ytnmocjhpbobahaa.L
namespace Go.Proofs.Ytnmocjhpbobahaa.L
open Go Go.RowKit
set_option maxRecDepth 100000
set_option maxHeartbeats 4000000
@[simp] theorem und28 : Try.prog.underlying 24 = some (.struct #[⟨"N", 3, 0, false, "", "", 0⟩, ⟨"E", 22, 1, false, "", "", 8⟩]) := by kernel_rfl
@[simp] theorem cells28 : Try.prog.cellsOf 24 = 2 := by kernel_rfl
@[simp] theorem s29v (n : Int) (l : List (Int × Int)) (m : Nat) (hl : l.length ≤ 17592186043904) (hm : m ≤ 900) : spec29 [iv n, ees l, iv m] = some (gro (anyN n m) (anyEs n m l)) := s29 n l m hl hm
abbrev E18 : Env := ext env0 24 spec29
theorem w18 (n : Int) (l : List (Int × Int)) (most : Nat) (hm : most ≤ 900) (hl : l.length ≤ 17592186043904) : ∃ c, Try.f10.body = some c ∧ RP (regOf Try.prog E18 11 u10) c (argsSt 0 [gr n l, iv most]) (endsAs Try.prog Try.f10 (gro (anyN n most) (anyEs n most l))) := by
  refine ⟨_, rfl, ?_⟩
  generalize hQ : endsAs Try.prog Try.f10 (gro (anyN n most) (anyEs n most l)) = Q
  simp only [argsSt]
  refine go ?_
  show Q .ret _; refine fin_ret hQ rfl ?_
  rfl
def spec18 : Spec := spec2 asGr asInt fun g m => when (g.2.length ≤ 17592186043904 ∧ 0 ≤ m ∧ m ≤ 900) (gro (anyN g.1 m.toNat) (anyEs g.1 m.toNat g.2))
theorem ok18 : SpecOk 10 spec18 := by
  intro us r h
  obtain ⟨x, z, g, m, rfl, hg, hm, h⟩ := spec2_eq h
  obtain ⟨hb, rfl⟩ := when_eq h
  rw [asGr_eq hg, asInt_eq hm]
  obtain ⟨M, rfl⟩ : ∃ M : Nat, m = M := ⟨m.toNat, by omega⟩
  exact goodBy2 (ext_ok env0_ok ok29) Try.func10 rfl (Nat.le_of_ble_eq_true rfl) (by decide) (w18 g.1 g.2 M (by omega) hb.1)
theorem s18 (n : Int) (l : List (Int × Int)) (m : Nat) (hl : l.length ≤ 17592186043904) (hm : m ≤ 900) : spec18 [gr n l, iv m] = some (gro (anyN n m) (anyEs n m l)) := by
  unfold spec18; rw [spec2_v (asGr_gr n l) (asInt_iv m)]; exact when_pos _ ⟨hl, by omega, by omega⟩
@[simp] theorem call18 {E : Env} {σ : St Unit} {t : Nat} {l : List Operand} : effCall Try.prog E ΩU σ t 10 l = callO E 10 t (argsOf Try.prog ΩU σ [24, 3] l) := eff_call Try.func10 Try.params10
end Go.Proofs.Ytnmocjhpbobahaa.L
