/- PRt5: the document's rounds, as rows hold them. Tab4: a table with more kept: the result lies in a row of its own rows. T21: the document's Route. -/
import Derived.Test.YtngglgkemonibaaQ26
import Derived.Test.YtngglgkemonibaaQ23
import Derived.Test.YtngglgkemonibaaQ11
import Derived.Test.YtngglgkemonibaaQ27
set_option linter.unusedVariables false
set_option linter.unusedSimpArgs false
set_option linter.unnecessarySimpa false
namespace Go.Proofs.Ytngglgkemonibaa.L
variable {N : Nat} {es : List (Int × Int)} {away : List Int} {a : Int}
def bOf (N : Nat) (M : List (List Int)) (v : Int) : List Int := if 0 ≤ v ∧ v < (N : Int) then nthR M v.toNat else []
theorem bOf_in {M : List (List Int)} {v : Int} (h : 0 ≤ v ∧ v < (N : Int)) : bOf N M v = nthR M v.toNat := if_pos h
theorem bOf_nat {M : List (List Int)} {v : Nat} (h : v < N) : bOf N M v = nthR M v := by rw [bOf_in (by omega)]; simp
theorem bOf_set {M : List (List Int)} {x v : Int} {p : List Int} (hl : M.length = N) (hx : 0 ≤ x ∧ x < (N : Int)) : bOf N (M.set x.toNat p) v = if v = x then p else bOf N M v := by
  unfold bOf
  rw [nthR_set (by omega)]
  by_cases e : v = x
  · subst e; rw [if_pos hx, if_pos rfl, if_pos rfl]
  · rw [if_neg e]
    by_cases hv : 0 ≤ v ∧ v < (N : Int)
    · rw [if_pos hv, if_pos hv, if_neg (by omega)]
    · rw [if_neg hv, if_neg hv]
theorem bOf_rep (v : Int) : bOf N (List.replicate N []) v = [] := by
  unfold bOf; split
  · rw [nthR_rep]
  · rfl
/-- The i-th way along an edge. -/
def dir (es : List (Int × Int)) (i : Nat) : Int × Int := if i % 2 = 1 then ((ent es (i / 2)).2, (ent es (i / 2)).1) else ((ent es (i / 2)).1, (ent es (i / 2)).2)
theorem dir_mem {u v : Int} : adj es u v ↔ (u, v) ∈ (List.range (2 * es.length)).map (dir es) := by
  simp only [adj, List.mem_map, List.mem_range]
  constructor
  · rintro (h | h)
    · obtain ⟨i, hi, h1, h2⟩ := mem_ent.1 h
      exact ⟨2 * i, by omega, by unfold dir; rw [if_neg (by omega), show 2 * i / 2 = i by omega, h1, h2]⟩
    · obtain ⟨i, hi, h1, h2⟩ := mem_ent.1 h
      exact ⟨2 * i + 1, by omega, by unfold dir; rw [if_pos (by omega), show (2 * i + 1) / 2 = i by omega, h1, h2]⟩
  · rintro ⟨i, hi, h⟩
    have hm : (ent es (i / 2)).1 = (ent es (i / 2)).1 ∧ (ent es (i / 2)).2 = (ent es (i / 2)).2 := ⟨rfl, rfl⟩
    have hin : ((ent es (i / 2)).1, (ent es (i / 2)).2) ∈ es := mem_ent.2 ⟨i / 2, by omega, rfl, rfl⟩
    unfold dir at h
    split at h
    · simp only [Prod.mk.injEq] at h
      obtain ⟨rfl, rfl⟩ := h
      exact .inr hin
    · simp only [Prod.mk.injEq] at h
      obtain ⟨rfl, rfl⟩ := h
      exact .inl hin
/-- A round has begun: the rows as they are. -/
structure LevM (N : Nat) (es : List (Int × Int)) (away : List Int) (a : Int) (M : List (List Int)) (k : Nat) : Prop where
  len : M.length = N
  lev : Lev es away a (bOf N M) k
theorem LevM.short {M : List (List Int)} {k : Nat} (h : LevM N es away a M k) (v : Nat) : (nthR M v).length ≤ k := by
  rcases Nat.lt_or_ge v N with hv | hv
  · by_cases e : nthR M v = []
    · rw [e]; simp
    · have := (h.lev.sound v (by rw [bOf_nat hv]; exact e)).2
      rwa [bOf_nat hv] at this
  · rw [show nthR M v = [] by unfold nthR; rw [List.getD_eq_getElem?_getD, List.getElem?_eq_none (by rw [h.len]; omega)]; rfl]; simp
theorem LevM.start {A : Nat} (hA : A < N) (ha : (A : Int) ∉ away) : LevM N es away A ((List.replicate N []).set A [(A : Int)]) 1 := by
  have hs : ∀ v, bOf N ((List.replicate N []).set A [(A : Int)]) v = if v = (A : Int) then [(A : Int)] else bOf N (List.replicate N []) v := fun v => by
    have := bOf_set (N := N) (M := List.replicate N []) (x := (A : Int)) (v := v) (p := [(A : Int)]) (by simp) (by omega)
    simpa using this
  refine ⟨by simp, Lev.start ha (by rw [hs, if_pos rfl]) fun v hv => ?_⟩
  rw [hs, if_neg hv, bOf_rep]
structure FndM (N : Nat) (es : List (Int × Int)) (away : List Int) (M : List (List Int)) (k i : Nat) (F : List (List Int)) : Prop where
  len : F.length = N
  ok : FoundOk (bOf N M) away k ((List.range i).map (dir es)) (bOf N F)
theorem FndM.start {M : List (List Int)} {k : Nat} : FndM N es away M k 0 (List.replicate N []) := ⟨by simp, FoundOk.start fun y => bOf_rep y⟩
theorem FndM.short {M F : List (List Int)} {k i : Nat} (h : FndM N es away M k i F) (v : Nat) : (nthR F v).length ≤ k + 1 := by
  rcases Nat.lt_or_ge v N with hv | hv
  · have := h.ok v
    rw [bOf_nat hv] at this
    rcases this with ⟨h1, _⟩ | ⟨h1, _⟩
    · rw [h1]; simp
    · rw [h1.length]; omega
  · rw [show nthR F v = [] by unfold nthR; rw [List.getD_eq_getElem?_getD, List.getElem?_eq_none (by rw [h.len]; omega)]; rfl]; simp
theorem range_dir (i : Nat) : (List.range (i + 1)).map (dir es) = (List.range i).map (dir es) ++ [dir es i] := by rw [List.range_succ, List.map_append]; rfl
theorem FndM.skip {M F : List (List Int)} {k i : Nat} {x y : Int} (h : FndM N es away M k i F) (hd : dir es i = (x, y)) (hx : 0 ≤ x ∧ x < (N : Int)) (hy : 0 ≤ y ∧ y < (N : Int)) (hn : ¬ ((nthR M x.toNat).length = k ∧ nthR M y.toNat = [] ∧ y ∉ away)) : FndM N es away M k (i + 1) F := by
  refine ⟨h.len, ?_⟩
  rw [range_dir, hd]
  exact h.ok.skip (by rw [bOf_in hx, bOf_in hy]; exact hn)
theorem FndM.leave {M F : List (List Int)} {k i : Nat} {x y : Int} (h : FndM N es away M k i F) (hd : dir es i = (x, y)) (hx : 0 ≤ x ∧ x < (N : Int)) (hy : 0 ≤ y ∧ y < (N : Int)) (h1 : nthR F y.toNat ≠ []) (h2 : lexLt (nthR M x.toNat ++ [y]) (nthR F y.toNat) = false) : FndM N es away M k (i + 1) F := by
  refine ⟨h.len, ?_⟩
  rw [range_dir, hd]
  exact h.ok.leave (by rw [bOf_in hx, bOf_in hy]; exact ⟨h1, h2⟩)
theorem FndM.take {M F : List (List Int)} {k i : Nat} {x y : Int} (h : FndM N es away M k i F) (hd : dir es i = (x, y)) (hx : 0 ≤ x ∧ x < (N : Int)) (hy : 0 ≤ y ∧ y < (N : Int)) (hn : (nthR M x.toNat).length = k ∧ nthR M y.toNat = [] ∧ y ∉ away)
    (hb : nthR F y.toNat = [] ∨ lexLt (nthR M x.toNat ++ [y]) (nthR F y.toNat) = true) : FndM N es away M k (i + 1) (F.set y.toNat (nthR M x.toNat ++ [y])) := by
  refine ⟨by simpa using h.len, ?_⟩
  rw [range_dir, hd]
  refine h.ok.take (by rw [bOf_in hx, bOf_in hy]; exact hn) (by rw [bOf_in hx, bOf_in hy]; exact hb) ?_ ?_
  · rw [bOf_set h.len hy, if_pos rfl, bOf_in hx]
  · intro z hz
    rw [bOf_set h.len hy, if_neg hz]
theorem LevM.step {M F M' : List (List Int)} {k : Nat} (h : LevM N es away a M k) (hk : 0 < k) (hf : FndM N es away M k (2 * es.length) F) (hl : M'.length = N) (hb : ∀ v : Nat, v < N → nthR M' v = if nthR F v = [] then nthR M v else nthR F v) : LevM N es away a M' (k + 1) := by
  refine ⟨hl, h.lev.step hk hf.ok (fun u v => dir_mem) fun v => ?_⟩
  by_cases hv : 0 ≤ v ∧ v < (N : Int)
  · rw [bOf_in hv, bOf_in hv, bOf_in hv]
    exact hb v.toNat (by omega)
  · unfold bOf
    rw [if_neg hv, if_neg hv, if_neg hv]; rfl
/-! ### rows whose first ones have been taken -/
open Go in
def DL : Nat → List (List Int) → List (Cell Unit)
  | _, [] => []
  | 0, l => OL l
  | k + 1, r :: l => (if r = [] then .sl true 1 () (IL r) else .dead) :: DL k l
theorem DL_zero (l : List (List Int)) : DL 0 l = OL l := by cases l <;> rfl
@[simp] theorem DL_length : ∀ (k : Nat) (l : List (List Int)), (DL k l).length = l.length
  | 0, [] => rfl
  | _ + 1, [] => rfl
  | 0, r :: l => by rw [DL_zero]; simp
  | k + 1, r :: l => by simp [DL, DL_length k l]
@[simp] theorem DL_get (k : Nat) : ∀ (l : List (List Int)) (v : Nat), k ≤ v → v < l.length → (DL k l)[v]? = some (.sl true 1 () (IL (nthR l v))) := by
  induction k with
  | zero => intro l v _ h; rw [DL_zero]; exact OL_get l v h
  | succ k ih =>
    intro l v h1 h2
    cases l with
    | nil => simp at h2
    | cons r l =>
      cases v with
      | zero => omega
      | succ v =>
        have := ih l v (by omega) (by simpa using h2)
        simpa [DL, nthR] using this
@[simp] theorem DL_nth (k : Nat) (l : List (List Int)) (v : Nat) (h : k ≤ v) (h2 : v < l.length) : ((DL k l).drop v).take 1 = [.sl true 1 () (IL (nthR l v))] := by
  have h3 := DL_get k l v h h2
  have h4 : v < (DL k l).length := by simpa using h2
  rw [List.getElem?_eq_getElem h4, Option.some.injEq] at h3
  rw [List.drop_eq_getElem_cons h4, List.take_succ_cons, List.take_zero, h3]
theorem DL_put (k : Nat) : ∀ (l : List (List Int)), k < l.length → nthR l k ≠ [] → (DL k l).set k .dead = DL (k + 1) l := by
  induction k with
  | zero =>
    intro l h1 h2
    cases l with
    | nil => simp at h1
    | cons r l => simp only [nthR, List.getD_cons_zero] at h2; simp [DL, OL, h2]; cases l <;> rfl
  | succ k ih =>
    intro l h1 h2
    cases l with
    | nil => simp at h1
    | cons r l =>
      have := ih l (by simpa using h1) (by simpa [nthR] using h2)
      simp only [DL, List.set_cons_succ, this]
theorem DL_skip (k : Nat) : ∀ (l : List (List Int)), k < l.length → nthR l k = [] → DL k l = DL (k + 1) l := by
  induction k with
  | zero =>
    intro l h1 h2
    cases l with
    | nil => simp at h1
    | cons r l => simp only [nthR, List.getD_cons_zero] at h2; subst h2; simp [DL, OL]; cases l <;> rfl
  | succ k ih =>
    intro l h1 h2
    cases l with
    | nil => simp at h1
    | cons r l =>
      have := ih l (by simpa using h1) (by simpa [nthR] using h2)
      simp only [DL, this]
end Go.Proofs.Ytngglgkemonibaa.L
namespace Go.Proofs.Ytngglgkemonibaa.L
open Go Go.RowKit
set_option maxRecDepth 100000
def v21 : List (Nat × RC) := (26, .s [8, 9]) :: u21
def tabs4 : Tabs := [(21, v21)]
theorem tabs4_ok : tabsOk Try.prog tabs4 = true := by kernel_rfl
theorem goodBy4 {E : Env} (hE : EnvOk Try.prog E) {f : FuncId} {fn : Func} {t : List (Nat × RC)} {us : List (SV Unit)} {r : SV Unit} (hf : Try.prog.funcs[f]? = some fn) (ht : tabs4.lookup f = some t) (hl : us.length ≤ fn.ntmps) (hn : (fn.name == "runtime.NumGoroutine") = false)
    (h : ∃ c, fn.body = some c ∧ RP (regOf Try.prog E fn.ntmps t) c (argsSt 0 us) (endsAs Try.prog fn r)) : Good Try.prog f us r := by
  obtain ⟨c, hc, h⟩ := h
  exact good_of hE tabs4_ok hf hc ht ⟨hl, hn⟩ h
end Go.Proofs.Ytngglgkemonibaa.L
namespace Go.Proofs.Ytngglgkemonibaa.L
open Go Go.RowKit
set_option maxRecDepth 100000
set_option maxHeartbeats 4000000
def hf (i : Nat) : Nat := i / 2
@[simp] theorem tdiv2 (i : Nat) : ((i : Nat) : Int).tdiv 2 = ((hf i : Nat) : Int) := rfl
@[simp] theorem half_nat (i : Nat) : (((i : Nat) : Int) / 2).toNat = hf i := by unfold hf; omega
@[simp] theorem tmod2 (i : Nat) : ((i : Nat) : Int).tmod 2 = ((i % 2 : Nat) : Int) := rfl
theorem res21 (B : Nat) (M : List (List Int)) (h : B < M.length) : ∃ d, resAll Try.prog [(8, ⟨.one, [.view 9 [0, B]]⟩), (9, orows M)] pend0 [.tmp 8] = some ([(.one, [.sl true 1 () (IL (nthR M B))])], d) := ⟨_, by simp [resAll, resOne, pend0, Cell.isOwn, OL_get M B h]; rfl⟩
abbrev E21 : Env := ext (ext (ext env0 34 spec34) 26 spec26) 39 spec39
theorem w21 (n : Int) (es : List (Int × Int)) (a b : Int) (away : List Int) (hl : away.length ≤ 17592186043904) : ∃ c, Try.f21.body = some c ∧ RP (regOf Try.prog E21 176 v21) c (argsSt 0 [gr n es, iv a, iv b, ints away]) (endsAs Try.prog Try.f21 (ow (routeP n es a b away))) := by
  refine ⟨_, rfl, ?_⟩
  generalize hQ : endsAs Try.prog Try.f21 (ow (routeP n es a b away)) = Q
  simp only [argsSt]
  refine gs ?_
  by_cases hok : RightG n es ∧ 0 ≤ a ∧ 0 ≤ b ∧ a < n ∧ b < n ∧ a ∉ away ∧ b ∉ away
  case neg =>
    have hans : routeP n es a b away = [] := routeP_nil hok
    rw [hans] at hQ
    by_cases hR : RightG n es
    case neg =>
      refine go ?_
      show Q .ret _; refine fin_ret hQ rfl ?_
      rfl
    by_cases h1 : a < 0
    · refine go ?_
      show Q .ret _; refine fin_ret hQ rfl ?_
      rfl
    by_cases h2 : b < 0
    · refine go ?_
      show Q .ret _; refine fin_ret hQ rfl ?_
      rfl
    by_cases h3 : n ≤ a
    · refine go ?_
      show Q .ret _; refine fin_ret hQ rfl ?_
      rfl
    by_cases h4 : n ≤ b
    · refine go ?_
      show Q .ret _; refine fin_ret hQ rfl ?_
      rfl
    by_cases h5 : a ∈ away
    · refine go ?_
      show Q .ret _; refine fin_ret hQ rfl ?_
      rfl
    by_cases h6 : b ∈ away
    · refine go ?_
      show Q .ret _; refine fin_ret hQ rfl ?_
      rfl
    exact absurd ⟨hR, by omega, by omega, by omega, by omega, h5, h6⟩ hok
  obtain ⟨hR, ha0, hb0, ha1, hb1, haA, haB⟩ := hok
  have hn0 := hR.1
  obtain ⟨N, rfl⟩ : ∃ N : Nat, n = N := ⟨n.toNat, by omega⟩
  obtain ⟨A, rfl⟩ : ∃ A : Nat, a = A := ⟨a.toNat, by omega⟩
  obtain ⟨B, rfl⟩ : ∃ B : Nat, b = B := ⟨b.toNat, by omega⟩
  have hN : N ≤ 1000 := by omega
  have hE : es.length ≤ 4000 := hR.1.2.2
  have hA : A < N := by omega
  have hB : B < N := by omega
  have hadjr : ∀ u v, adj es u v → 0 ≤ v ∧ v < (N : Int) := fun u v h => by
    rcases h with h | h
    · have := hR.mem h; omega
    · have := hR.mem h; omega
  have hdr : ∀ i, i < 2 * es.length → (0 ≤ (dir es i).1 ∧ (dir es i).1 < (N : Int)) ∧ (0 ≤ (dir es i).2 ∧ (dir es i).2 < (N : Int)) := fun i hi => by
    have h : adj es (dir es i).1 (dir es i).2 := dir_mem.2 (List.mem_map.2 ⟨i, List.mem_range.2 hi, rfl⟩)
    exact ⟨hadjr _ _ h.symm, hadjr _ _ h⟩
  refine go ?_
  refine RP.mono (Q := fun e σ => e = .exit 0 ∧ ∃ M : List (List Int), LevM N es away A M N ∧ σ = [(2, iv B), (3, ints away), (4, gbx N es), (9, orows M), (10, iv N), (61, bv false)]) ?_ ?_
  · apply rp_loop (fun k σ => ∃ (long : Nat) (M : List (List Int)), k = N - long ∧ 1 ≤ long ∧ long ≤ N ∧ LevM N es away A M long ∧ σ = [(2, iv B), (3, ints away), (4, gbx N es), (9, orows M), (10, iv long)]) (N - 1)
    · exact ⟨1, _, rfl, by omega, by omega, LevM.start hA haA, by rw [show ([.sc (.int .i64 (A : Int))] : List (Cell Unit)) = IL [(A : Int)] from rfl, OL_set]; rfl⟩
    rintro k σ ⟨long, M, rfl, hk1, hk2, hM, rfl⟩
    have hMl := hM.len
    by_cases hlong : long < N
    case neg =>
      obtain rfl : long = N := by omega
      refine go ?_
      exact ⟨rfl, M, hM, rfl⟩
    refine go ?_
    refine RP.mono (Q := fun e σ => e = .exit 2 ∧ ∃ (F : List (List Int)), FndM N es away M long (2 * es.length) F ∧ σ = [(2, iv B), (3, ints away), (4, gbx N es), (9, orows M), (10, iv long), (11, orows F), (12, iv (2 * es.length : Nat)), (72, bv false)]) ?_ ?_
    · apply rp_loop (fun k σ => ∃ (i : Nat) (F : List (List Int)), k = 2 * es.length - i ∧ i ≤ 2 * es.length ∧ FndM N es away M long i F ∧ σ = [(2, iv B), (3, ints away), (4, gbx N es), (9, orows M), (10, iv long), (11, orows F), (12, iv i)]) (2 * es.length)
      · exact ⟨0, _, by omega, by omega, FndM.start, by simp⟩
      rintro k σ ⟨i, F, rfl, hi, hF, rfl⟩
      have hFl := hF.len
      by_cases hil : i < 2 * es.length
      case neg =>
        obtain rfl : i = 2 * es.length := by omega
        refine go ?_
        exact ⟨rfl, F, hF, rfl⟩
      have hih : hf i < es.length := by unfold hf; omega
      have hxl : ∀ v, (nthR M v).length ≤ 1000 := fun v => by have := hM.short v; omega
      have hyl : ∀ v, (nthR F v).length ≤ 1001 := fun v => by have := hF.short v; omega
      have hD : ∃ x y : Int, dir es i = (x, y) ∧ (0 ≤ x ∧ x < (N : Int)) ∧ (0 ≤ y ∧ y < (N : Int)) ∧ (if i % 2 = 1 then x = (ent es (hf i)).2 ∧ y = (ent es (hf i)).1 else x = (ent es (hf i)).1 ∧ y = (ent es (hf i)).2) := by
        have h3 := hdr i hil
        by_cases h : i % 2 = 1
        · have h2 : dir es i = ((ent es (hf i)).2, (ent es (hf i)).1) := if_pos h
          rw [h2] at h3
          exact ⟨_, _, h2, h3.1, h3.2, by rw [if_pos h]; exact ⟨rfl, rfl⟩⟩
        · have h2 : dir es i = ((ent es (hf i)).1, (ent es (hf i)).2) := if_neg h
          rw [h2] at h3
          exact ⟨_, _, h2, h3.1, h3.2, by rw [if_neg h]; exact ⟨rfl, rfl⟩⟩
      obtain ⟨x, y, hd, ⟨hx0, hx1⟩, ⟨hy0, hy1⟩, hxy⟩ := hD
      have hxM : x.toNat < M.length := by omega
      have hyM : y.toNat < M.length := by omega
      have hyF : y.toNat < F.length := by omega
      by_cases hodd : i % 2 = 1
      · rw [if_pos hodd] at hxy
        refine go ?_
        rw [← hxy.1, ← hxy.2]
        clear hxy
        have hb1 := hxl x.toNat
        have hb2 := hyl y.toNat
        have hpl : (nthR M x.toNat ++ [y]).length ≤ 17592186043904 := by simp; omega
        by_cases c1 : (nthR M x.toNat).length = long
        case neg =>
          have hnext := hF.skip hd ⟨hx0, hx1⟩ ⟨hy0, hy1⟩ (fun h => c1 h.1)
          refine go ?_
          exact nxt (2 * es.length - (i + 1)) (by omega) ⟨i + 1, F, by omega, by omega, hnext, by simp⟩
        by_cases c2 : 0 < (nthR M y.toNat).length
        · have hnext := hF.skip hd ⟨hx0, hx1⟩ ⟨hy0, hy1⟩ (fun h => by rw [h.2.1] at c2; simp at c2)
          refine go ?_
          exact nxt (2 * es.length - (i + 1)) (by omega) ⟨i + 1, F, by omega, by omega, hnext, by simp⟩
        by_cases c3 : y ∈ away
        · have hnext := hF.skip hd ⟨hx0, hx1⟩ ⟨hy0, hy1⟩ (fun h => h.2.2 c3)
          refine go ?_
          exact nxt (2 * es.length - (i + 1)) (by omega) ⟨i + 1, F, by omega, by omega, hnext, by simp⟩
        have c2' : nthR M y.toNat = [] := List.length_eq_zero_iff.1 (by omega)
        by_cases c4 : (nthR F y.toNat).length = 0
        · have c4' := List.length_eq_zero_iff.1 c4
          have hnext := hF.take hd ⟨hx0, hx1⟩ ⟨hy0, hy1⟩ ⟨c1, c2', c3⟩ (.inl c4')
          refine go ?_
          exact nxt (2 * es.length - (i + 1)) (by omega) ⟨i + 1, F.set y.toNat (nthR M x.toNat ++ [y]), by omega, by omega, hnext, by simp⟩
        have c4' : nthR F y.toNat ≠ [] := fun h => c4 (by rw [h]; rfl)
        cases c5 : lexLt (nthR M x.toNat ++ [y]) (nthR F y.toNat) with
        | true =>
          have hnext := hF.take hd ⟨hx0, hx1⟩ ⟨hy0, hy1⟩ ⟨c1, c2', c3⟩ (.inr c5)
          refine go ?_
          rw [c5]
          refine go ?_
          exact nxt (2 * es.length - (i + 1)) (by omega) ⟨i + 1, F.set y.toNat (nthR M x.toNat ++ [y]), by omega, by omega, hnext, by simp⟩
        | false =>
          have hnext := hF.leave hd ⟨hx0, hx1⟩ ⟨hy0, hy1⟩ c4' c5
          refine go ?_
          rw [c5]
          refine go ?_
          exact nxt (2 * es.length - (i + 1)) (by omega) ⟨i + 1, F, by omega, by omega, hnext, by simp⟩
      · rw [if_neg hodd] at hxy
        refine go ?_
        rw [← hxy.1, ← hxy.2]
        clear hxy
        have hb1 := hxl x.toNat
        have hb2 := hyl y.toNat
        have hpl : (nthR M x.toNat ++ [y]).length ≤ 17592186043904 := by simp; omega
        by_cases c1 : (nthR M x.toNat).length = long
        case neg =>
          have hnext := hF.skip hd ⟨hx0, hx1⟩ ⟨hy0, hy1⟩ (fun h => c1 h.1)
          refine go ?_
          exact nxt (2 * es.length - (i + 1)) (by omega) ⟨i + 1, F, by omega, by omega, hnext, by simp⟩
        by_cases c2 : 0 < (nthR M y.toNat).length
        · have hnext := hF.skip hd ⟨hx0, hx1⟩ ⟨hy0, hy1⟩ (fun h => by rw [h.2.1] at c2; simp at c2)
          refine go ?_
          exact nxt (2 * es.length - (i + 1)) (by omega) ⟨i + 1, F, by omega, by omega, hnext, by simp⟩
        by_cases c3 : y ∈ away
        · have hnext := hF.skip hd ⟨hx0, hx1⟩ ⟨hy0, hy1⟩ (fun h => h.2.2 c3)
          refine go ?_
          exact nxt (2 * es.length - (i + 1)) (by omega) ⟨i + 1, F, by omega, by omega, hnext, by simp⟩
        have c2' : nthR M y.toNat = [] := List.length_eq_zero_iff.1 (by omega)
        by_cases c4 : (nthR F y.toNat).length = 0
        · have c4' := List.length_eq_zero_iff.1 c4
          have hnext := hF.take hd ⟨hx0, hx1⟩ ⟨hy0, hy1⟩ ⟨c1, c2', c3⟩ (.inl c4')
          refine go ?_
          exact nxt (2 * es.length - (i + 1)) (by omega) ⟨i + 1, F.set y.toNat (nthR M x.toNat ++ [y]), by omega, by omega, hnext, by simp⟩
        have c4' : nthR F y.toNat ≠ [] := fun h => c4 (by rw [h]; rfl)
        cases c5 : lexLt (nthR M x.toNat ++ [y]) (nthR F y.toNat) with
        | true =>
          have hnext := hF.take hd ⟨hx0, hx1⟩ ⟨hy0, hy1⟩ ⟨c1, c2', c3⟩ (.inr c5)
          refine go ?_
          rw [c5]
          refine go ?_
          exact nxt (2 * es.length - (i + 1)) (by omega) ⟨i + 1, F.set y.toNat (nthR M x.toNat ++ [y]), by omega, by omega, hnext, by simp⟩
        | false =>
          have hnext := hF.leave hd ⟨hx0, hx1⟩ ⟨hy0, hy1⟩ c4' c5
          refine go ?_
          rw [c5]
          refine go ?_
          exact nxt (2 * es.length - (i + 1)) (by omega) ⟨i + 1, F, by omega, by omega, hnext, by simp⟩
    rintro e σ ⟨rfl, F, hF, rfl⟩
    simp only [inBlock_exit, if_true, thenR_normal]
    have hFl := hF.len
    refine go ?_
    refine RP.mono (Q := fun e σ => e = .exit 4 ∧ ∃ (M' : List (List Int)), M'.length = N ∧ (∀ v : Nat, v < N → nthR M' v = if nthR F v = [] then nthR M v else nthR F v) ∧ σ = [(2, iv B), (3, ints away), (4, gbx N es), (9, orows M'), (10, iv long), (11, ⟨.one, [.c (.sl true 1 () (DL N F))]⟩), (16, iv N), (156, bv false)]) ?_ ?_
    · apply rp_loop (fun k σ => ∃ (v : Nat) (M' : List (List Int)), k = N - v ∧ v ≤ N ∧ M'.length = N ∧ (∀ u : Nat, u < N → nthR M' u = if u < v ∧ nthR F u ≠ [] then nthR F u else nthR M u) ∧ σ = [(2, iv B), (3, ints away), (4, gbx N es), (9, orows M'), (10, iv long), (11, ⟨.one, [.c (.sl true 1 () (DL v F))]⟩), (16, iv v)]) N
      · exact ⟨0, M, by omega, by omega, hMl, fun u hu => by rw [if_neg (by omega)], by rw [DL_zero]; rfl⟩
      rintro k σ ⟨v, M', rfl, hv, hMl', hval, rfl⟩
      by_cases hvl : v < N
      case neg =>
        obtain rfl : v = N := by omega
        refine go ?_
        exact ⟨rfl, M', hMl', fun u hu => by
          rw [hval u hu]
          by_cases e : nthR F u = []
          · rw [if_pos e, if_neg (fun h => h.2 e)]
          · rw [if_neg e, if_pos ⟨hu, e⟩], rfl⟩
      have hvF : v < F.length := by omega
      have hvM : v < M'.length := by omega
      have hvv : v ≤ v := Nat.le_refl v
      by_cases c1 : nthR F v = []
      · have c2 : (nthR F v).length = 0 := by rw [c1]; rfl
        have hnext := DL_skip v F hvF c1
        refine go ?_
        refine nxt (N - (v + 1)) (by omega) ⟨v + 1, M', by omega, by omega, hMl', fun u hu => ?_, by rw [← hnext]; rfl⟩
        rw [hval u hu]
        by_cases e : u < v ∧ nthR F u ≠ []
        · rw [if_pos e, if_pos ⟨by omega, e.2⟩]
        · rw [if_neg e, if_neg (fun h => e ⟨by
            rcases Nat.lt_succ_iff_lt_or_eq.1 h.1 with h2 | rfl
            · exact h2
            · exact absurd c1 h.2, h.2⟩)]
      · have c2 : 0 < (nthR F v).length := List.length_pos_iff.2 c1
        have hnext := DL_put v F hvF c1
        refine go ?_
        refine nxt (N - (v + 1)) (by omega) ⟨v + 1, M'.set v (nthR F v), by omega, by omega, by simpa using hMl', fun u hu => ?_, ?_⟩
        · rw [nthR_set (by omega)]
          by_cases e : v = u
          · subst e; rw [if_pos rfl, if_pos ⟨by omega, c1⟩]
          · rw [if_neg e, hval u hu]
            by_cases e2 : u < v ∧ nthR F u ≠ []
            · rw [if_pos e2, if_pos ⟨by omega, e2.2⟩]
            · rw [if_neg e2, if_neg (fun h => e2 ⟨by omega, h.2⟩)]
        · rw [← hnext]
          rfl
    rintro e σ ⟨rfl, M', hMl', hval, rfl⟩
    simp only [inBlock_exit, if_true, thenR_normal]
    have hnext := hM.step (by omega) hF hMl' hval
    refine go ?_
    exact nxt (N - (long + 1)) (by omega) ⟨long + 1, M', by omega, by omega, by omega, hnext, by simp⟩
  rintro e σ ⟨rfl, M, hM, rfl⟩
  simp only [inBlock_exit, if_true, thenR_normal]
  have hMl := hM.len
  refine go ?_
  have hans : routeP N es A B away = nthR M B := by
    have := hM.lev.ans (b := (B : Int)) hadjr (by omega)
    rw [bOf_nat hB] at this
    exact routeP_eq ⟨hR, by omega, by omega, by omega, by omega, haA, haB⟩ this
  rw [hans] at hQ
  have hBl : B < M.length := by omega
  show Q .ret _
  obtain ⟨d, hd⟩ := res21 B M hBl
  exact fin_ret hQ hd rfl
noncomputable def spec21 : Spec := spec4 asGr asInt asInt asInts fun g a b l => when (l.length ≤ 17592186043904) (ow (routeP g.1 g.2 a b l))
theorem ok21 : SpecOk 21 spec21 := by
  intro us r h
  obtain ⟨x, y, z, u, g, a, b, l, rfl, hg, ha, hb, hp, h⟩ := spec4_eq h
  obtain ⟨hl, rfl⟩ := when_eq h
  rw [asGr_eq hg, asInt_eq ha, asInt_eq hb, asInts_eq hp]
  exact goodBy4 (ext_ok (ext_ok (ext_ok env0_ok ok34) ok26) ok39) Try.func21 rfl (Nat.le_of_ble_eq_true rfl) (by decide) (w21 g.1 g.2 a b l hl)
@[simp] theorem s21 (n : Int) (es : List (Int × Int)) (a b : Int) (p : List Int) (h : p.length ≤ 17592186043904) : spec21 [gr n es, iv a, iv b, ints p] = some (ow (routeP n es a b p)) := by
  unfold spec21; rw [spec4_v (asGr_gr n es) (asInt_iv a) (asInt_iv b) (asInts_ints p)]; exact when_pos _ h
@[simp] theorem call21 {E : Env} {σ : St Unit} {t : Nat} {l : List Operand} : effCall Try.prog E ΩU σ t 21 l = callO E 21 t (argsOf Try.prog ΩU σ [24, 3, 3, 25] l) := eff_call Try.func21 Try.params21
end Go.Proofs.Ytngglgkemonibaa.L
