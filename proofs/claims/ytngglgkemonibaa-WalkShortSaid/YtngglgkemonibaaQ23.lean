/- T47: carcanetref03.Normal, of edges in range. -/
import Derived.Test.YtngglgkemonibaaQ20
import Derived.Test.YtngglgkemonibaaQ19
import Derived.Test.YtngglgkemonibaaQ22
import Derived.Test.YtngglgkemonibaaQ11
set_option linter.unusedVariables false
set_option linter.unusedSimpArgs false
set_option linter.unnecessarySimpa false
namespace Go.Proofs.Ytngglgkemonibaa.L
open Go Go.RowKit
set_option maxRecDepth 100000
set_option maxHeartbeats 4000000
abbrev E47 : Env := ext (ext env0 26 spec26) 55 spec55
def stepU (up : List (List Int)) (e : Int × Int) : List (List Int) :=
  if e.1 ≠ e.2 ∧ max e.1 e.2 ∉ nthR up (min e.1 e.2).toNat then up.set (min e.1 e.2).toNat (nthR up (min e.1 e.2).toNat ++ [max e.1 e.2]) else up
def upF (n : Nat) (l : List (Int × Int)) : List (List Int) := l.foldl stepU (List.replicate n [])
theorem nthR_set {up : List (List Int)} {i j : Nat} {r : List Int} (hi : i < up.length) : nthR (up.set i r) j = if i = j then r else nthR up j := by
  unfold nthR
  rw [List.getD_eq_getElem?_getD, List.getD_eq_getElem?_getD, List.getElem?_set]
  split
  · next h => subst h; simp [hi]
  · rfl
theorem stepU_len (up : List (List Int)) (e : Int × Int) : (stepU up e).length = up.length := by unfold stepU; split <;> simp
theorem nthR_rep (n j : Nat) : nthR (List.replicate n []) j = [] := by
  unfold nthR; rw [List.getD_eq_getElem?_getD, List.getElem?_replicate]; split <;> rfl
/-- What the rows of neighbours above hold. -/
structure UpOk (n : Nat) (k : Nat) (up : List (List Int)) : Prop where
  len : up.length = n
  short : ∀ j, (nthR up j).length ≤ k
  nd : ∀ j, (nthR up j).Nodup
  range : ∀ j x, x ∈ nthR up j → (j : Int) < x ∧ x < n
  total : (up.map List.length).sum ≤ k
theorem sum_set (x : Int) : ∀ (up : List (List Int)) (i : Nat), i < up.length → ((up.set i (nthR up i ++ [x])).map List.length).sum = (up.map List.length).sum + 1
  | [], i, h => by simp at h
  | r :: up, 0, _ => by simp [nthR]; omega
  | r :: up, i + 1, h => by
    have := sum_set x up i (by simpa using h)
    have e : nthR (r :: up) (i + 1) = nthR up i := by simp [nthR]
    rw [e, List.set_cons_succ, List.map_cons, List.sum_cons, this, List.map_cons, List.sum_cons]; omega
theorem stepU_ok {n k : Nat} {up : List (List Int)} {e : Int × Int} (h : UpOk n k up) (h1 : 0 ≤ e.1 ∧ e.1 < n) (h2 : 0 ≤ e.2 ∧ e.2 < n) : UpOk n (k + 1) (stepU up e) := by
  unfold stepU
  split
  · next hc =>
    have hL : (min e.1 e.2).toNat < up.length := by rw [h.len]; omega
    refine ⟨by simpa using h.len, fun j => ?_, fun j => ?_, fun j x hx => ?_, by rw [sum_set _ _ _ hL]; have := h.total; omega⟩
    · rw [nthR_set hL]
      split
      · have := h.short (min e.1 e.2).toNat; simp; omega
      · have := h.short j; omega
    · rw [nthR_set hL]
      split
      · rw [List.nodup_append]
        exact ⟨h.nd _, by simp, fun a ha b hb => by rw [List.mem_singleton.1 hb]; exact fun e => hc.2 (e ▸ ha)⟩
      · exact h.nd j
    · rw [nthR_set hL] at hx
      split at hx
      · next hj =>
        rcases List.mem_append.1 hx with hx | hx
        · rw [← hj]; exact h.range _ x hx
        · rw [List.mem_singleton] at hx
          have := hc.1
          omega
      · exact h.range j x hx
  · exact ⟨h.len, fun j => by have := h.short j; omega, h.nd, h.range, by have := h.total; omega⟩
/-- The edges, row by row. -/
def edgesTo (up : List (List Int)) (k : Nat) : List (Int × Int) := ((List.range k).map fun a => (sortR (nthR up a)).map fun b => ((a : Int), b)).flatten
theorem edgesTo_succ (up : List (List Int)) (k : Nat) : edgesTo up (k + 1) = edgesTo up k ++ (sortR (nthR up k)).map fun b => ((k : Int), b) := by
  unfold edgesTo; rw [List.range_succ, List.map_append, List.flatten_append]; simp
theorem edgesTo_len (up : List (List Int)) : ∀ k, k ≤ up.length → (edgesTo up k).length = ((up.take k).map List.length).sum
  | 0, _ => by simp [edgesTo]
  | k + 1, h => by
    rw [edgesTo_succ, List.length_append, edgesTo_len up k (by omega), nthR_take (by omega), List.length_map, len_sortR]; simp
theorem sum_take_le : ∀ (l : List Nat) (k : Nat), (l.take k).sum ≤ l.sum
  | [], k => by simp
  | x :: l, 0 => by simp
  | x :: l, k + 1 => by have := sum_take_le l k; simp only [List.take_succ_cons, List.sum_cons]; omega
abbrev gbo (n : Int) (es : List (Int × Int)) : SV Unit := ⟨.one, [.c (.bx true () [.sc (.int .i64 n), .sl true 2 () (EL es)])]⟩
/-- What Normal answers: a graph of one's own, and no error. -/
abbrev normR (n : Int) (es : List (Int × Int)) : SV Unit := ⟨.tup [some 2, none], [.c (.sc (.int .i64 n)), .c (.sl true 2 () (EL es)), .c (.sc (.int .i64 0))]⟩
theorem w47 (n : Nat) (l : List (Int × Int)) (hn : n ≤ 1000) (hl : l.length ≤ 300) (hr : ∀ i, i < l.length → (0 ≤ (ent l i).1 ∧ (ent l i).1 < n) ∧ 0 ≤ (ent l i).2 ∧ (ent l i).2 < n) : ∃ c, Try.f47.body = some c ∧ RP (regOf Try.prog E47 120 u47) c (argsSt 0 [iv n, ⟨.one, [.c (.sl false 2 () (EL l))]⟩]) (endsAs Try.prog Try.f47 (normR n (edgesTo (upF n l) n))) := by
  refine ⟨_, rfl, ?_⟩
  generalize hQ : endsAs Try.prog Try.f47 (normR n (edgesTo (upF n l) n)) = Q
  simp only [argsSt]
  refine go ?_
  refine RP.mono (Q := fun e σ => e = .exit 0 ∧ UpOk n l.length (upF n l) ∧ σ = [(0, iv n), (1, ⟨.one, [.c (.sl false 2 () (EL l))]⟩), (4, ⟨.one, [.c (.bx true () [.sc (.int .i64 0), .sl true 2 () []])]⟩), (6, orows (upF n l)), (7, iv l.length), (26, bv false)]) ?_ ?_
  · apply rp_loop (fun k σ => ∃ (i : Nat) (up : List (List Int)), i ≤ l.length ∧ k = l.length - i ∧ up = upF n (l.take i) ∧ UpOk n i up ∧ σ = [(0, iv n), (1, ⟨.one, [.c (.sl false 2 () (EL l))]⟩), (4, ⟨.one, [.c (.bx true () [.sc (.int .i64 0), .sl true 2 () []])]⟩), (6, orows up), (7, iv i)]) l.length
    · exact ⟨0, _, by omega, by omega, rfl, ⟨by simp [upF], fun j => by simp [upF, nthR_rep], fun j => by simp [upF, nthR_rep], fun j x hx => by simp [upF, nthR_rep] at hx, by simp [upF]⟩, rfl⟩
    rintro k σ ⟨i, up, hi, rfl, hup, hok, rfl⟩
    by_cases hil : i < l.length
    case neg =>
      obtain rfl : i = l.length := by omega
      rw [List.take_length] at hup
      rw [hup] at hok ⊢
      refine go ?_
      exact ⟨rfl, hok, rfl⟩
    obtain ⟨hp, hq⟩ := hr i hil
    have hnext : stepU up (ent l i) = upF n (l.take (i + 1)) := by rw [hup]; unfold upF; rw [ent_take hil, List.foldl_append]; rfl
    have hok' := stepU_ok hok hp hq
    have hul := hok.len
    have hsh := hok.short (min (ent l i).1 (ent l i).2).toNat
    clear hup hok
    unfold stepU at hnext hok'
    refine go ?_
    by_cases hpq : (ent l i).1 = (ent l i).2
    · rw [if_neg (fun h => h.1 hpq)] at hnext hok'
      refine go ?_
      exact nxt (l.length - (i + 1)) (by omega) ⟨i + 1, _, by omega, by omega, hnext, hok', rfl⟩
    by_cases hin : max (ent l i).1 (ent l i).2 ∈ nthR up (min (ent l i).1 (ent l i).2).toNat
    · rw [if_neg (fun h => h.2 hin)] at hnext hok'
      refine go ?_
      exact nxt (l.length - (i + 1)) (by omega) ⟨i + 1, _, by omega, by omega, hnext, hok', rfl⟩
    · rw [if_pos ⟨hpq, hin⟩] at hnext hok'
      refine go ?_
      exact nxt (l.length - (i + 1)) (by omega) ⟨i + 1, _, by omega, by omega, hnext, hok', rfl⟩
  rintro e σ ⟨rfl, hok, rfl⟩
  simp only [inBlock_exit, if_true, thenR_normal]
  have hul := hok.len
  have htot := hok.total
  have hel : ∀ k, k ≤ n → (edgesTo (upF n l) k).length ≤ 300 := by
    intro k hk
    have h1 := sum_take_le ((upF n l).map List.length) k
    rw [edgesTo_len _ k (by omega), List.map_take]
    omega
  have hsh := hok.short
  generalize upF n l = U at *
  refine go ?_
  refine RP.mono (Q := fun e σ => e = .exit 2 ∧ σ = [(0, iv n), (4, ⟨.one, [.c (.bx true () [.sc (.int .i64 0), .sl true 2 () []])]⟩), (6, orows U), (11, gbo n (edgesTo U n)), (12, iv n), (89, bv false)]) ?_ ?_
  · apply rp_loop (fun k σ => ∃ a : Nat, a ≤ n ∧ k = n - a ∧ σ = [(0, iv n), (4, ⟨.one, [.c (.bx true () [.sc (.int .i64 0), .sl true 2 () []])]⟩), (6, orows U), (11, gbo n (edgesTo U a)), (12, iv a)]) n
    · exact ⟨0, by omega, by omega, rfl⟩
    rintro k σ ⟨a, ha, rfl, rfl⟩
    by_cases hal : a < n
    case neg =>
      obtain rfl : a = n := by omega
      refine go ?_
      exact ⟨rfl, rfl⟩
    have hsa := hsh a
    have hsl := len_sortR (nthR U a)
    have hsucc := edgesTo_succ U a
    have hea := hel a ha
    refine go ?_
    have hsl' : (sortR (nthR U a)).length ≤ 300 := by omega
    generalize sortR (nthR U a) = row at *
    refine RP.mono (Q := fun e σ => e = .exit 4 ∧ σ = [(0, iv n), (4, ⟨.one, [.c (.bx true () [.sc (.int .i64 0), .sl true 2 () []])]⟩), (6, orows U), (11, gbo n (edgesTo U a ++ row.map fun b => ((a : Int), b))), (12, iv a), (13, ow row), (14, iv row.length), (100, bv false)]) ?_ ?_
    · apply rp_loop (fun k σ => ∃ j : Nat, j ≤ row.length ∧ k = row.length - j ∧ σ = [(0, iv n), (4, ⟨.one, [.c (.bx true () [.sc (.int .i64 0), .sl true 2 () []])]⟩), (6, orows U), (11, gbo n (edgesTo U a ++ (row.take j).map fun b => ((a : Int), b))), (12, iv a), (13, ow row), (14, iv j)]) row.length
      · exact ⟨0, by omega, by omega, by simp⟩
      rintro k σ ⟨j, hj, rfl, rfl⟩
      by_cases hjl : j < row.length
      case neg =>
        obtain rfl : j = row.length := by omega
        rw [List.take_length]
        refine go ?_
        exact ⟨rfl, rfl⟩
      have hst : (row.take (j + 1)).map (fun b => ((a : Int), b)) = (row.take j).map (fun b => ((a : Int), b)) ++ [((a : Int), nth row j)] := by rw [nth_take hjl]; simp
      have hgl : (edgesTo U a ++ (row.take j).map fun b => ((a : Int), b)).length ≤ 600 := by rw [List.length_append, List.length_map, List.length_take]; omega
      generalize hG : (edgesTo U a ++ (row.take j).map fun b => ((a : Int), b)) = G at *
      refine go ?_
      refine nxt (row.length - (j + 1)) (by omega) ⟨j + 1, by omega, by omega, ?_⟩
      rw [hst, ← List.append_assoc, hG]
      simp
    rintro e σ ⟨rfl, rfl⟩
    simp only [inBlock_exit, if_true, thenR_normal]
    refine go ?_
    refine nxt (n - (a + 1)) (by omega) ⟨a + 1, by omega, by omega, ?_⟩
    rw [hsucc]
    simp
  rintro e σ ⟨rfl, rfl⟩
  simp only [inBlock_exit, if_true, thenR_normal]
  have hen := hel n (Nat.le_refl n)
  generalize edgesTo U n = G at *
  refine go ?_
  show Q .ret _; refine fin_ret hQ rfl ?_
  rfl
end Go.Proofs.Ytngglgkemonibaa.L
