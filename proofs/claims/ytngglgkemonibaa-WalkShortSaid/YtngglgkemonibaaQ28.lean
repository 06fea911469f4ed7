/- Nm: what Normal answers is a right graph. T29: carcanetref03.Any and Of. T18: carcanetref03.Of. -/
import Derived.Test.YtngglgkemonibaaQ23
set_option linter.unusedVariables false
set_option linter.unusedSimpArgs false
set_option linter.unnecessarySimpa false
namespace Go.Proofs.Ytngglgkemonibaa.L
open Go Go.RowKit
theorem pos_spec (x : Int) (a : List Int) : ∀ t, posR x a t ≤ t ∧ (∀ j, posR x a t ≤ j → j < t → x < nth a j) ∧ (0 < posR x a t → nth a (posR x a t - 1) ≤ x)
  | 0 => ⟨Nat.le_refl _, fun j h1 h2 => by omega, fun h => by simp [posR] at h⟩
  | t + 1 => by
    obtain ⟨h1, h2, h3⟩ := pos_spec x a t
    unfold posR
    by_cases h : a.getD t 0 > x
    · rw [if_pos h]
      refine ⟨by omega, fun j hj1 hj2 => ?_, h3⟩
      by_cases e : j = t
      · rw [e]; exact h
      · exact h2 j hj1 (by omega)
    · rw [if_neg h]
      exact ⟨Nat.le_refl _, fun j h1 h2 => by omega, fun _ => by show a.getD t 0 ≤ x; omega⟩
theorem insR_perm (x : Int) (a : List Int) : (insR x a).Perm (x :: a) := by
  unfold insR
  refine List.perm_middle.trans ?_
  rw [List.take_append_drop]
theorem insR_sorted {x : Int} {a : List Int} (h : a.Pairwise (· ≤ ·)) : (insR x a).Pairwise (· ≤ ·) := by
  obtain ⟨h1, h2, h3⟩ := pos_spec x a a.length
  unfold insR
  generalize posR x a a.length = p at *
  have hp := List.pairwise_iff_getElem.1 h
  have hlo : ∀ y ∈ a.take p, y ≤ x := by
    intro y hy
    obtain ⟨j, hj, rfl⟩ := List.getElem_of_mem hy
    rw [List.length_take] at hj
    rw [List.getElem_take]
    have := h3 (by omega)
    rw [nth_eq (by omega)] at this
    by_cases e : j = p - 1
    · subst e; exact this
    · exact Int.le_trans (hp j (p - 1) (by omega) (by omega) (by omega)) this
  have hhi : ∀ y ∈ a.drop p, x < y := by
    intro y hy
    obtain ⟨j, hj, rfl⟩ := List.getElem_of_mem hy
    rw [List.length_drop] at hj
    rw [List.getElem_drop, ← nth_eq]
    exact h2 _ (by omega) (by omega)
  rw [List.pairwise_append, List.pairwise_cons]
  refine ⟨h.sublist (List.take_sublist p a), ⟨fun y hy => Int.le_of_lt (hhi y hy), h.sublist (List.drop_sublist p a)⟩, fun y hy z hz => ?_⟩
  rcases List.mem_cons.1 hz with rfl | hz
  · exact hlo y hy
  · exact Int.le_trans (hlo y hy) (Int.le_of_lt (hhi z hz))
theorem fold_sorted (l : List Int) : ∀ a : List Int, a.Pairwise (· ≤ ·) → (l.foldl (fun a x => insR x a) a).Pairwise (· ≤ ·) := by
  induction l with
  | nil => exact fun a h => h
  | cons y l ih => exact fun a h => ih _ (insR_sorted h)
theorem sortR_sorted (l : List Int) : (sortR l).Pairwise (· ≤ ·) := fold_sorted l [] .nil
theorem fold_perm (l : List Int) : ∀ a : List Int, (l.foldl (fun a x => insR x a) a).Perm (l ++ a) := by
  induction l with
  | nil => exact fun a => .refl _
  | cons y l ih => exact fun a => (ih _).trans ((List.Perm.append_left l (insR_perm y a)).trans List.perm_middle)
theorem sortR_perm (l : List Int) : (sortR l).Perm l := by have := fold_perm l []; rwa [List.append_nil] at this
theorem sortR_lt {l : List Int} (h : l.Nodup) : (sortR l).Pairwise (· < ·) := by
  have h1 := sortR_sorted l
  have h2 : (sortR l).Nodup := (sortR_perm l).nodup_iff.2 h
  rw [List.Nodup] at h2
  exact (h1.and h2).imp fun h => by omega
theorem right_of {n : Int} {es : List (Int × Int)} (h0 : 0 ≤ n ∧ n ≤ 1000 ∧ es.length ≤ 4000) (h1 : ∀ e ∈ es, okE n e) (h2 : es.Pairwise ltE) : RightG n es := by
  refine ⟨h0, fun i hi => ?_⟩
  have e1 : es.getD i (0, 0) = es[i] := by simp [hi]
  rw [e1]
  refine ⟨h1 _ (List.getElem_mem hi), fun hp => ?_⟩
  have e2 : es.getD (i - 1) (0, 0) = es[i - 1] := by simp [show i - 1 < es.length by omega]
  rw [e2]
  exact List.pairwise_iff_getElem.1 h2 (i - 1) i (by omega) hi (by omega)
theorem edgesTo_right {n k : Nat} {U : List (List Int)} (h : UpOk n k U) (hn : n ≤ 1000) (hk : k ≤ 300) : RightG n (edgesTo U n) := by
  have hlen : (edgesTo U n).length ≤ 300 := by
    rw [edgesTo_len _ n (by rw [h.len]; exact Nat.le_refl n), List.map_take]
    have h1 := sum_take_le (U.map List.length) n
    have := h.total
    omega
  have key : ∀ m, m ≤ n → (∀ e ∈ edgesTo U m, okE n e ∧ e.1 < m) ∧ (edgesTo U m).Pairwise ltE := by
    intro m
    induction m with
    | zero => intro _; exact ⟨fun e he => by simp [edgesTo] at he, by simp [edgesTo]⟩
    | succ m ih =>
      intro hm
      obtain ⟨i1, i2⟩ := ih (by omega)
      have hrow : ∀ e ∈ (sortR (nthR U m)).map (fun b => ((m : Int), b)), okE n e ∧ e.1 = m := by
        intro e he
        obtain ⟨b, hb, rfl⟩ := List.mem_map.1 he
        have := h.range m b (mem_sortR.1 hb)
        exact ⟨⟨by show (0 : Int) ≤ m; omega, this.2, this.1⟩, rfl⟩
      rw [edgesTo_succ]
      refine ⟨fun e he => ?_, ?_⟩
      · rcases List.mem_append.1 he with he | he
        · have := i1 e he; exact ⟨this.1, by omega⟩
        · have := hrow e he; exact ⟨this.1, by omega⟩
      · rw [List.pairwise_append]
        refine ⟨i2, ?_, fun e he f hf => ?_⟩
        · rw [List.pairwise_map]
          exact (sortR_lt (h.nd m)).imp fun hlt => .inr ⟨rfl, hlt⟩
        · have h1 := (i1 e he).2
          have h2 := (hrow f hf).2
          exact .inl (by omega)
  obtain ⟨k1, k2⟩ := key n (Nat.le_refl n)
  exact right_of ⟨by omega, by omega, by omega⟩ (fun e he => (k1 e he).1) k2
theorem upF_ok (n : Nat) : ∀ (m : Nat) (l : List (Int × Int)), l.length = m → (∀ e ∈ l, (0 ≤ e.1 ∧ e.1 < n) ∧ 0 ≤ e.2 ∧ e.2 < n) → UpOk n l.length (upF n l) := by
  intro m
  induction m with
  | zero =>
    intro l hl _
    obtain rfl := List.eq_nil_of_length_eq_zero hl
    exact ⟨by simp [upF], fun j => by simp [upF, nthR_rep], fun j => by simp [upF, nthR_rep], fun j x hx => by simp [upF, nthR_rep] at hx, by simp [upF]⟩
  | succ m ih =>
    intro l hl hr
    have hne : l ≠ [] := by intro h; rw [h] at hl; simp at hl
    rw [← List.dropLast_concat_getLast hne]
    have h1 := ih l.dropLast (by rw [List.length_dropLast]; omega) (fun e he => hr e (List.dropLast_subset l he))
    have h2 := hr _ (List.getLast_mem hne)
    unfold upF at h1 ⊢
    rw [List.foldl_append, List.length_append]
    exact stepU_ok h1 h2.1 h2.2
/-- The edges of a graph that is made from anything. -/
def normE (n : Nat) (l : List (Int × Int)) : List (Int × Int) := edgesTo (upF n l) n
theorem normE_right {n : Nat} {l : List (Int × Int)} (hn : n ≤ 1000) (hl : l.length ≤ 300) (hr : ∀ e ∈ l, (0 ≤ e.1 ∧ e.1 < n) ∧ 0 ≤ e.2 ∧ e.2 < n) : RightG n (normE n l) :=
  edgesTo_right (upF_ok n l.length l rfl hr) hn hl
def asEs : SV Unit → Option (List (Int × Int))
  | ⟨.one, [.c (.sl false 2 () row)]⟩ => toEdges row
  | _ => none
abbrev ees (l : List (Int × Int)) : SV Unit := ⟨.one, [.c (.sl false 2 () (EL l))]⟩
@[simp] theorem asEs_ees (l : List (Int × Int)) : asEs (ees l) = some l := toEdges_EL l
theorem asEs_eq {v : SV Unit} {l : List (Int × Int)} (h : asEs v = some l) : v = ees l := by
  unfold asEs at h
  split at h
  · rw [toEdges_eq h]
  · cases h
def spec47 : Spec := spec2 asInt asEs fun n l => when ((0 ≤ n ∧ n ≤ 1000 ∧ l.length ≤ 300) ∧ ∀ e ∈ l, (0 ≤ e.1 ∧ e.1 < n) ∧ 0 ≤ e.2 ∧ e.2 < n) (normR n (normE n.toNat l))
theorem ok47 : SpecOk 47 spec47 := by
  intro us r h
  obtain ⟨x, y, n, l, rfl, hn, hl, h⟩ := spec2_eq h
  obtain ⟨⟨hb, hr⟩, rfl⟩ := when_eq h
  rw [asInt_eq hn, asEs_eq hl]
  obtain ⟨N, rfl⟩ : ∃ N : Nat, n = N := ⟨n.toNat, by omega⟩
  exact goodBy2 (ext_ok (ext_ok env0_ok ok26) ok55) Try.func47 rfl (Nat.le_of_ble_eq_true rfl) (by decide) (w47 N l (by omega) hb.2.2 (fun i hi => hr _ (by rw [ent_eq hi]; exact List.getElem_mem hi)))
@[simp] theorem s47 (n : Nat) (l : List (Int × Int)) (hn : n ≤ 1000) (hl : l.length ≤ 300) (hr : ∀ e ∈ l, (0 ≤ e.1 ∧ e.1 < n) ∧ 0 ≤ e.2 ∧ e.2 < n) : spec47 [iv n, ees l] = some (normR n (normE n l)) := by
  unfold spec47; rw [spec2_v (asInt_iv n) (asEs_ees l)]; exact when_pos _ ⟨⟨by omega, by omega, hl⟩, hr⟩
@[simp] theorem call47 {E : Env} {σ : St Unit} {t : Nat} {l : List Operand} : effCall Try.prog E ΩU σ t 47 l = callO E 47 t (argsOf Try.prog ΩU σ [3, 22] l) := eff_call Try.func47 Try.params47
end Go.Proofs.Ytngglgkemonibaa.L
namespace Go.Proofs.Ytngglgkemonibaa.L
open Go Go.RowKit
set_option maxRecDepth 100000
set_option maxHeartbeats 4000000
theorem and16 (a : Int) : ∃ m : Nat, m < 65536 ∧ andI a 65535 = (m : Int) := by
  have h : (BitVec.ofInt 64 a &&& BitVec.ofInt 64 65535).toNat < 65536 := by
    rw [BitVec.toNat_and]
    have : (BitVec.ofInt 64 65535).toNat = 65535 := by decide
    rw [this]
    exact Nat.lt_of_le_of_lt (Nat.and_le_right) (by decide)
  refine ⟨_, h, ?_⟩
  unfold andI
  rw [wrap_in _ (by omega)]
theorem and16_mod (a : Int) (n : Nat) (hn : 0 < n) : ∃ f : Nat, f < n ∧ (andI a 65535).tmod (n : Int) = (f : Int) := by
  obtain ⟨m, _, e⟩ := and16 a
  exact ⟨m % n, Nat.mod_lt _ hn, by rw [e]; rfl⟩
def anyE (n : Nat) (e : Int × Int) : Int × Int := ((andI e.1 65535).tmod n, (andI e.2 65535).tmod n)
def anyL (n : Nat) (l : List (Int × Int)) : List (Int × Int) := if n = 0 then [] else (l.take 300).map (anyE n)
attribute [simp] kdLen kdKd
/-- A graph of one's own, as a value. -/
abbrev gro (n : Int) (es : List (Int × Int)) : SV Unit := ⟨.agg, [.c (.sc (.int .i64 n)), .c (.sl true 2 () (EL es))]⟩
abbrev E29 : Env := ext env0 47 spec47
theorem w29 (n : Int) (l : List (Int × Int)) (most : Nat) (hm : most ≤ 900) (hl : l.length ≤ 17592186043904) (N : Nat) (hN : N ≤ most) (hNe : (andI n 65535).tmod ((most : Int) + 1) = N) : ∃ c, Try.f29.body = some c ∧ RP (regOf Try.prog E29 57 u29) c (argsSt 0 [iv n, ees l, iv most]) (endsAs Try.prog Try.f29 (gro N (normE N (anyL N l)))) := by
  refine ⟨_, rfl, ?_⟩
  generalize hQ : endsAs Try.prog Try.f29 (gro N (normE N (anyL N l))) = Q
  simp only [argsSt]
  refine go ?_
  rw [hNe]
  refine RP.mono (Q := fun e σ => e = .exit 0 ∧ ∃ i : Nat, σ = [(0, iv N), (1, ees l), (6, ⟨.one, [.c (.bx true () [.sc (.int .i64 0), .sl true 2 () []])]⟩), (7, ⟨.one, [.c (.sl true 2 () (EL (anyL N l)))]⟩), (8, iv i), (27, bv false)]) ?_ ?_
  · apply rp_loop (fun k σ => ∃ i : Nat, i ≤ l.length ∧ i ≤ 300 ∧ (N = 0 → i = 0) ∧ k = l.length - i ∧ σ = [(0, iv N), (1, ees l), (6, ⟨.one, [.c (.bx true () [.sc (.int .i64 0), .sl true 2 () []])]⟩), (7, ⟨.one, [.c (.sl true 2 () (EL ((l.take i).map (anyE N))))]⟩), (8, iv i)]) l.length
    · exact ⟨0, by omega, by omega, fun _ => rfl, by omega, rfl⟩
    rintro k σ ⟨i, hi, hi3, hN0, rfl, rfl⟩
    have hal : ((l.take i).map (anyE N)).length = i := by rw [List.length_map, List.length_take]; omega
    by_cases hgo : i < l.length ∧ i < 300 ∧ 0 < N
    case neg =>
      have hans : anyL N l = (l.take i).map (anyE N) := by
        unfold anyL
        by_cases h0 : N = 0
        · rw [if_pos h0, hN0 h0]; simp
        · rw [if_neg h0]
          by_cases h3 : i = 300
          · rw [h3]
          · rw [List.take_of_length_le (by omega : l.length ≤ i), List.take_of_length_le (by omega : l.length ≤ 300)]
      rw [hans]
      generalize (l.take i).map (anyE N) = A at *
      rcases (by omega : ¬ i < l.length ∨ (i < l.length ∧ ¬ i < 300) ∨ (i < l.length ∧ i < 300 ∧ N = 0)) with h | ⟨h, h'⟩ | ⟨h, h', h''⟩
      all_goals
        refine go ?_
        exact ⟨rfl, i, rfl⟩
    obtain ⟨g1, g2, g3⟩ := hgo
    have hst : (l.take (i + 1)).map (anyE N) = (l.take i).map (anyE N) ++ [((andI (ent l i).1 65535).tmod (N : Int), (andI (ent l i).2 65535).tmod (N : Int))] := by rw [ent_take g1]; simp [anyE]
    have hN1 : ¬ N = 0 := by omega
    generalize (l.take i).map (anyE N) = A at *
    refine go ?_
    exact nxt (l.length - (i + 1)) (by omega) ⟨i + 1, by omega, by omega, fun h => by omega, by omega, by rw [hst]; simp⟩
  rintro e σ ⟨rfl, i, rfl⟩
  simp only [inBlock_exit, if_true, thenR_normal]
  have hlen : (anyL N l).length ≤ 300 := by
    unfold anyL; split
    · simp
    · rw [List.length_map, List.length_take]; omega
  have hrange : ∀ e ∈ anyL N l, (0 ≤ e.1 ∧ e.1 < N) ∧ 0 ≤ e.2 ∧ e.2 < N := by
    unfold anyL; split
    · intro e he; cases he
    · next h0 =>
      intro e he
      obtain ⟨e', _, rfl⟩ := List.mem_map.1 he
      obtain ⟨f, hf, e1⟩ := and16_mod e'.1 N (by omega)
      obtain ⟨g, hg, e2⟩ := and16_mod e'.2 N (by omega)
      unfold anyE
      rw [e1, e2]
      simp only
      omega
  generalize anyL N l = L at *
  refine go ?_
  show Q .ret _; refine fin_ret hQ rfl ?_
  rfl
theorem anyL_ok (N : Nat) (l : List (Int × Int)) : (anyL N l).length ≤ 300 ∧ ∀ e ∈ anyL N l, (0 ≤ e.1 ∧ e.1 < N) ∧ 0 ≤ e.2 ∧ e.2 < N := by
  unfold anyL
  split
  · exact ⟨by simp, fun e he => by cases he⟩
  · next h0 =>
    refine ⟨by rw [List.length_map, List.length_take]; omega, fun e he => ?_⟩
    obtain ⟨e', _, rfl⟩ := List.mem_map.1 he
    obtain ⟨f, hf, e1⟩ := and16_mod e'.1 N (by omega)
    obtain ⟨g, hg, e2⟩ := and16_mod e'.2 N (by omega)
    unfold anyE
    rw [e1, e2]
    simp only
    omega
/-- How many vertices; which edges. -/
def anyN (n : Int) (most : Nat) : Nat := ((andI n 65535).tmod ((most : Int) + 1)).toNat
def anyEs (n : Int) (most : Nat) (l : List (Int × Int)) : List (Int × Int) := normE (anyN n most) (anyL (anyN n most) l)
theorem anyN_ok (n : Int) (most : Nat) : anyN n most ≤ most ∧ (andI n 65535).tmod ((most : Int) + 1) = anyN n most := by
  obtain ⟨f, hf, e⟩ := and16_mod n (most + 1) (by omega)
  rw [show ((most + 1 : Nat) : Int) = (most : Int) + 1 from rfl] at e
  unfold anyN
  rw [e]
  exact ⟨by rw [Int.toNat_natCast]; omega, by rw [Int.toNat_natCast]⟩
theorem any_right (n : Int) {most : Nat} (hm : most ≤ 900) (l : List (Int × Int)) : RightG (anyN n most) (anyEs n most l) :=
  normE_right (by have := (anyN_ok n most).1; omega) (anyL_ok _ l).1 (anyL_ok _ l).2
def spec29 : Spec := spec3 asInt asEs asInt fun n l m => when (l.length ≤ 17592186043904 ∧ 0 ≤ m ∧ m ≤ 900) (gro (anyN n m.toNat) (anyEs n m.toNat l))
theorem ok29 : SpecOk 29 spec29 := by
  intro us r h
  obtain ⟨x, y, z, n, l, m, rfl, hn, hl, hm, h⟩ := spec3_eq h
  obtain ⟨hb, rfl⟩ := when_eq h
  rw [asInt_eq hn, asEs_eq hl, asInt_eq hm]
  obtain ⟨M, rfl⟩ : ∃ M : Nat, m = M := ⟨m.toNat, by omega⟩
  exact goodBy2 (ext_ok env0_ok ok47) Try.func29 rfl (Nat.le_of_ble_eq_true rfl) (by decide) (w29 n l M (by omega) hb.1 (anyN n M) (anyN_ok n M).1 (anyN_ok n M).2)
theorem s29 (n : Int) (l : List (Int × Int)) (m : Nat) (hl : l.length ≤ 17592186043904) (hm : m ≤ 900) : spec29 [iv n, ees l, iv m] = some (gro (anyN n m) (anyEs n m l)) := by
  unfold spec29; rw [spec3_v (asInt_iv n) (asEs_ees l) (asInt_iv m)]; exact when_pos _ ⟨hl, by omega, by omega⟩
@[simp] theorem call29 {E : Env} {σ : St Unit} {t : Nat} {l : List Operand} : effCall Try.prog E ΩU σ t 29 l = callO E 29 t (argsOf Try.prog ΩU σ [3, 22, 3] l) := eff_call Try.func29 Try.params29
end Go.Proofs.Ytngglgkemonibaa.L
namespace Go.Proofs.Ytngglgkemonibaa.L
open Go Go.RowKit
set_option maxRecDepth 100000
set_option maxHeartbeats 4000000
@[simp] theorem und28 : Try.prog.underlying 28 = some (.struct #[⟨"N", 3, 0, false, "", "", 0⟩, ⟨"E", 22, 1, false, "", "", 8⟩]) := by kernel_rfl
@[simp] theorem cells28 : Try.prog.cellsOf 28 = 2 := by kernel_rfl
@[simp] theorem s29v (n : Int) (l : List (Int × Int)) (m : Nat) (hl : l.length ≤ 17592186043904) (hm : m ≤ 900) : spec29 [iv n, ees l, iv m] = some (gro (anyN n m) (anyEs n m l)) := s29 n l m hl hm
abbrev E18 : Env := ext env0 29 spec29
theorem w18 (n : Int) (l : List (Int × Int)) (most : Nat) (hm : most ≤ 900) (hl : l.length ≤ 17592186043904) : ∃ c, Try.f18.body = some c ∧ RP (regOf Try.prog E18 11 u18) c (argsSt 0 [gr n l, iv most]) (endsAs Try.prog Try.f18 (gro (anyN n most) (anyEs n most l))) := by
  refine ⟨_, rfl, ?_⟩
  generalize hQ : endsAs Try.prog Try.f18 (gro (anyN n most) (anyEs n most l)) = Q
  simp only [argsSt]
  refine go ?_
  show Q .ret _; refine fin_ret hQ rfl ?_
  rfl
def spec18 : Spec := spec2 asGr asInt fun g m => when (g.2.length ≤ 17592186043904 ∧ 0 ≤ m ∧ m ≤ 900) (gro (anyN g.1 m.toNat) (anyEs g.1 m.toNat g.2))
theorem ok18 : SpecOk 18 spec18 := by
  intro us r h
  obtain ⟨x, z, g, m, rfl, hg, hm, h⟩ := spec2_eq h
  obtain ⟨hb, rfl⟩ := when_eq h
  rw [asGr_eq hg, asInt_eq hm]
  obtain ⟨M, rfl⟩ : ∃ M : Nat, m = M := ⟨m.toNat, by omega⟩
  exact goodBy2 (ext_ok env0_ok ok29) Try.func18 rfl (Nat.le_of_ble_eq_true rfl) (by decide) (w18 g.1 g.2 M (by omega) hb.1)
theorem s18 (n : Int) (l : List (Int × Int)) (m : Nat) (hl : l.length ≤ 17592186043904) (hm : m ≤ 900) : spec18 [gr n l, iv m] = some (gro (anyN n m) (anyEs n m l)) := by
  unfold spec18; rw [spec2_v (asGr_gr n l) (asInt_iv m)]; exact when_pos _ ⟨hl, by omega, by omega⟩
@[simp] theorem call18 {E : Env} {σ : St Unit} {t : Nat} {l : List Operand} : effCall Try.prog E ΩU σ t 18 l = callO E 18 t (argsOf Try.prog ΩU σ [28, 3] l) := eff_call Try.func18 Try.params18
end Go.Proofs.Ytngglgkemonibaa.L
