/- R22: graph.Degrees. RB2: slices.Sort as a call. RG: what begin lays, as a plain law. -/
import Derived.Test.YtnmocjhpbobahaaQ15
import Derived.Test.YtnmocjhpbobahaaQ35
import Derived.Test.YtnmocjhpbobahaaQ34
set_option linter.unusedVariables false
set_option linter.unusedSimpArgs false
set_option linter.unnecessarySimpa false
namespace Go.Proofs.Ytnmocjhpbobahaa.L
open Go Go.RowKit
set_option maxRecDepth 100000
set_option maxHeartbeats 4000000
/-- One more neighbour. -/
def bump (d : List Int) (i : Nat) : List Int := d.set i (nth d i + 1)
def degF (n : Nat) (es : List (Int × Int)) : Nat → List Int
  | 0 => List.replicate n 0
  | i + 1 => bump (bump (degF n es i) (ent es i).1.toNat) (ent es i).2.toNat
theorem right_rng {n : Nat} {es : List (Int × Int)} (h : RightG n es) (i : Nat) (hi : i < es.length) : 0 ≤ (ent es i).1 ∧ (ent es i).1 < n ∧ 0 ≤ (ent es i).2 ∧ (ent es i).2 < n ∧ (ent es i).1 < (ent es i).2 := by
  have := (h.2 i hi).1
  unfold okE at this
  unfold ent
  omega
def specDeg : Spec := spec1 asGr fun g => when (RightG g.1 g.2) (ow (degF g.1.toNat g.2 g.2.length))
@[simp] theorem sDeg (n : Int) (es : List (Int × Int)) (h : RightG n es) : specDeg [gr n es] = some (ow (degF n.toNat es es.length)) := by
  unfold specDeg; rw [spec1_v _ _ _ _ (asGr_gr n es)]; exact when_pos _ h
@[simp] theorem callDeg {E : Env} {σ : St Unit} {t : Nat} {l : List Operand} : effCall Try.prog E ΩU σ t 22 l = callO E 22 t (argsOf Try.prog ΩU σ [26] l) := eff_call Try.func22 Try.params22
end Go.Proofs.Ytnmocjhpbobahaa.L
namespace Go.Proofs.Ytnmocjhpbobahaa.L
open Go Go.RowKit
set_option maxRecDepth 100000
def specSort : Spec := fun us => match us with
  | [⟨.one, [.c (.sl true 1 () row)]⟩] => match toInts row with
    | some l => when (l.length ≤ 1000000) (lentSV (.sl true 1 () (IL (sortI l))) (resSV []))
    | none => none
  | _ => none
theorem okSort : SpecOk 50 specSort := by
  intro us R h
  unfold specSort at h
  split at h
  · split at h
    · next row _ l hl =>
      obtain ⟨h1, rfl⟩ := when_eq h
      rw [toInts_eq hl]
      show GoodE Try.prog 50 [one (.c (.sl true 1 () (IL l)))] _
      exact goodSort l h1
    · cases h
  · cases h
@[simp] theorem sSortR {l : List Int} (h : l.length ≤ 1000000) : specSort [⟨.one, [.c (.sl true 1 () (IL l))]⟩] = some (lentSV (.sl true 1 () (IL (sortI l))) (resSV [])) := by
  unfold specSort
  simp only [toInts_map]
  exact when_pos _ h
@[simp] theorem sSortF {row : List (Cell Unit)} : specSort [⟨.one, [.c (.sl false 1 () row)]⟩] = none := rfl
@[simp] theorem lendEff_row {t s : Nat} {p : List Nat} {v : SV Unit} {l : List Int} : lendEff t s p (.sl true 1 () (IL l)) v (lentSV (.sl true 1 () (IL (sortI l))) (resSV [])) = some ⟨[(s, v.setP p (.sl true 1 () (IL (sortI l)))), (t, resSV [])], (t, []) :: (List.range l.length).map (fun i => (s, p ++ [i])), []⟩ := by
  unfold lendEff
  simp only [lentSV, Cell.isOwn, Cell.row, IL_length, sortI_length, true_and, if_true, Cell.withRow]
@[simp] theorem callSort {E : Env} {σ : St Unit} {t : Nat} {l : List Operand} : effCall Try.prog E ΩU σ t 50 l = callO E 50 t (argsOf Try.prog ΩU σ [39] l) := eff_call Try.func50 Try.params50
@[simp] theorem lendSort {E : Env} {σ : St Unit} {t s : Nat} {l : List Operand} : effLend Try.prog E ΩU σ t 50 (.tmp s :: l) = lendO E σ t s 50 [] l := eff_lend Try.func50 Try.params50
@[simp] theorem BL_rep (n : Nat) : List.replicate n (.sc (.bool false) : Cell Unit) = BL (List.replicate n false) := by simp [BL, B]
@[simp] theorem zeroBool : zeroCellsOf Try.prog () 4 = some [.sc (.bool false)] := by kernel_rfl
@[simp] theorem bytesBool : Try.prog.bytesOf 4 = 1 := by kernel_rfl
/-! ### what begin builds -/
def rowsA (n : Nat) (es : List (Int × Int)) : Nat → List (List Int)
  | 0 => List.replicate n []
  | i + 1 => ((rowsA n es i).set (ent es i).1.toNat (nthR (rowsA n es i) (ent es i).1.toNat ++ [(ent es i).2])).set (ent es i).2.toNat (nthR ((rowsA n es i).set (ent es i).1.toNat (nthR (rowsA n es i) (ent es i).1.toNat ++ [(ent es i).2])) (ent es i).2.toNat ++ [(ent es i).1])
def srt (l : List (List Int)) : Nat → List (List Int)
  | 0 => l
  | j + 1 => (srt l j).set j (sortI (nthR (srt l j) j))
def beginF (n : Nat) (es : List (Int × Int)) : Rst := ⟨srt (rowsA n es es.length) n, List.replicate n 0, List.replicate n false, n⟩
theorem rowsA_len (n : Nat) (es : List (Int × Int)) (i : Nat) : (rowsA n es i).length = n := by
  induction i with
  | zero => simp [rowsA]
  | succ i ih => rw [rowsA, List.length_set, List.length_set, ih]
theorem srt_len (l : List (List Int)) (j : Nat) : (srt l j).length = l.length := by
  induction j with
  | zero => rfl
  | succ j ih => rw [srt, List.length_set, ih]
theorem rowsA_le (n : Nat) (es : List (Int × Int)) (i v : Nat) : (nthR (rowsA n es i) v).length ≤ 2 * i := by
  induction i generalizing v with
  | zero => unfold rowsA nthR; simp only [List.getD_eq_getElem?_getD, List.getElem?_replicate]; split <;> simp
  | succ i ih =>
    have hs : ∀ (l : List (List Int)) (x : List Int) (j k : Nat), (∀ u, (nthR l u).length ≤ k) → x.length ≤ k → ∀ u, (nthR (l.set j x) u).length ≤ k := by
      intro l x j k h1 h2 u
      unfold nthR
      simp only [List.getD_eq_getElem?_getD, List.getElem?_set]
      split
      · split
        · exact h2
        · exact Nat.zero_le _
      · have := h1 u; unfold nthR at this; simpa [List.getD_eq_getElem?_getD] using this
    rw [rowsA]
    have h1 : ∀ u, (nthR ((rowsA n es i).set (ent es i).1.toNat (nthR (rowsA n es i) (ent es i).1.toNat ++ [(ent es i).2])) u).length ≤ 2 * i + 1 := hs _ _ _ _ (fun u => by have := ih u; omega) (by rw [List.length_append]; have := ih (ent es i).1.toNat; simp only [List.length_cons, List.length_nil]; omega)
    exact hs _ _ _ _ (fun u => by have := h1 u; omega) (by rw [List.length_append]; have := h1 (ent es i).2.toNat; simp only [List.length_cons, List.length_nil]; omega) v
theorem srt_at (l : List (List Int)) (j v : Nat) (hj : j ≤ l.length) : nthR (srt l j) v = if v < j then sortI (nthR l v) else nthR l v := by
  induction j with
  | zero => simp [srt]
  | succ j ih =>
    rw [srt, nthR_set (by rw [srt_len]; omega)]
    have hh := ih (by omega)
    by_cases h : j = v
    · subst h
      rw [if_pos rfl, if_pos (by omega), hh, if_neg (by omega)]
    · rw [if_neg h, hh]
      by_cases h2 : v < j
      · rw [if_pos h2, if_pos (by omega)]
      · rw [if_neg h2, if_neg (by omega)]
end Go.Proofs.Ytnmocjhpbobahaa.L
namespace Go.Proofs.Ytnmocjhpbobahaa.L
open Go Go.RowKit
set_option maxRecDepth 100000
theorem right_lt {n : Nat} {es : List (Int × Int)} (h : RightG n es) : ∀ (i j : Nat), j < i → i < es.length → ltE (ent es j) (ent es i)
  | 0, j, hj, _ => by omega
  | i + 1, j, hj, hi => by
    have h1 := (h.2 (i + 1) hi).2 (by omega)
    rw [Nat.add_sub_cancel] at h1
    have h1 : ltE (ent es i) (ent es (i + 1)) := h1
    by_cases e : j = i
    · subst e; exact h1
    · have := right_lt h i j (by omega) (by omega)
      unfold ltE at *
      omega
theorem nthR_rep (n v : Nat) : nthR (List.replicate n ([] : List Int)) v = [] := by
  unfold nthR
  simp only [List.getD_eq_getElem?_getD, List.getElem?_replicate]
  split <;> rfl
theorem rowsA_spec {n : Nat} {es : List (Int × Int)} (h : RightG n es) : ∀ i, i ≤ es.length → ∀ v, v < n → (nthR (rowsA n es i) v).Nodup ∧ ∀ x : Int, x ∈ nthR (rowsA n es i) v ↔ ∃ j, j < i ∧ (ent es j = ((v : Int), x) ∨ ent es j = (x, (v : Int)))
  | 0, _, v, hv => by
    rw [show nthR (rowsA n es 0) v = [] from nthR_rep n v]
    exact ⟨List.nodup_nil, fun x => ⟨fun e => absurd e List.not_mem_nil, fun ⟨j, hj, _⟩ => by omega⟩⟩
  | i + 1, hi, v, hv => by
    have ih := rowsA_spec h i (by omega)
    obtain ⟨e1, e2, e3, e4, e5⟩ := right_rng h i (by omega)
    have hlt := fun j hj => right_lt h i j hj (by omega)
    have l1 := rowsA_len n es i
    rw [rowsA]
    generalize hE : ent es i = e at *
    obtain ⟨a', b'⟩ := e
    simp only at e1 e2 e3 e4 e5
    obtain ⟨a, rfl⟩ : ∃ a : Nat, a' = (a : Int) := ⟨a'.toNat, by omega⟩
    obtain ⟨b, rfl⟩ : ∃ b : Nat, b' = (b : Int) := ⟨b'.toNat, by omega⟩
    simp only [Int.toNat_natCast]
    have hab : a ≠ b := by omega
    have hrow : nthR (((rowsA n es i).set a (nthR (rowsA n es i) a ++ [(b : Int)])).set b (nthR ((rowsA n es i).set a (nthR (rowsA n es i) a ++ [(b : Int)])) b ++ [(a : Int)])) v = if b = v then nthR (rowsA n es i) b ++ [(a : Int)] else if a = v then nthR (rowsA n es i) a ++ [(b : Int)] else nthR (rowsA n es i) v := by
      rw [nthR_set (by rw [List.length_set]; omega), nthR_set (by omega), nthR_set (by omega), if_neg hab]
    rw [hrow]
    obtain ⟨n1, m1⟩ := ih v hv
    have old : ∀ x : Int, (∃ j, j < i + 1 ∧ (ent es j = ((v : Int), x) ∨ ent es j = (x, (v : Int)))) ↔ (x ∈ nthR (rowsA n es i) v ∨ (((a : Int), (b : Int)) = ((v : Int), x) ∨ ((a : Int), (b : Int)) = (x, (v : Int)))) := by
      intro x
      rw [m1]
      constructor
      · rintro ⟨j, hj, hh⟩
        by_cases e : j = i
        · subst e; rw [hE] at hh; exact .inr hh
        · exact .inl ⟨j, by omega, hh⟩
      · rintro (⟨j, hj, hh⟩ | hh)
        · exact ⟨j, by omega, hh⟩
        · exact ⟨i, by omega, by rw [hE]; exact hh⟩
    have notin : ∀ x : Int, (((a : Int), (b : Int)) = ((v : Int), x) ∨ ((a : Int), (b : Int)) = (x, (v : Int))) → x ∉ nthR (rowsA n es i) v := by
      intro x hx hm
      obtain ⟨j, hj, hh⟩ := (m1 x).1 hm
      have hl := hlt j hj
      unfold ltE at hl
      obtain ⟨r1, r2, r3, r4, r5⟩ := right_rng h j (by omega)
      rcases hx with hx | hx <;> rcases hh with hh | hh <;> (rw [hh] at hl r5; simp only [Prod.mk.injEq] at hx hl r5; omega)
    have app : ∀ (y : Int), (((a : Int), (b : Int)) = ((v : Int), y) ∨ ((a : Int), (b : Int)) = (y, (v : Int))) → (nthR (rowsA n es i) v ++ [y]).Nodup := by
      intro y hy
      rw [List.nodup_append]
      refine ⟨n1, by simp, fun z hz w hw => ?_⟩
      rw [List.mem_singleton] at hw
      subst hw
      rintro rfl
      exact notin _ hy hz
    by_cases hbv : b = v
    · subst hbv
      rw [if_pos rfl]
      refine ⟨app a (.inr rfl), fun x => ?_⟩
      rw [old, List.mem_append, List.mem_singleton]
      simp only [Prod.mk.injEq]
      constructor
      · rintro (q | q)
        · exact .inl q
        · exact .inr (.inr ⟨q.symm, trivial⟩)
      · rintro (q | ⟨q, _⟩ | ⟨q, _⟩)
        · exact .inl q
        · omega
        · exact .inr q.symm
    · rw [if_neg hbv]
      by_cases hav : a = v
      · subst hav
        rw [if_pos rfl]
        refine ⟨app b (.inl rfl), fun x => ?_⟩
        rw [old, List.mem_append, List.mem_singleton]
        simp only [Prod.mk.injEq]
        constructor
        · rintro (q | q)
          · exact .inl q
          · exact .inr (.inl ⟨trivial, q.symm⟩)
        · rintro (q | ⟨_, q⟩ | ⟨_, q⟩)
          · exact .inl q
          · exact .inr q.symm
          · omega
      · rw [if_neg hav]
        refine ⟨n1, fun x => ?_⟩
        rw [old]
        simp only [Prod.mk.injEq]
        constructor
        · exact .inl
        · rintro (q | ⟨q, _⟩ | ⟨_, q⟩)
          · exact q
          · omega
          · omega
theorem sortI_perm (l : List Int) : (sortI l).Perm l := List.mergeSort_perm l _
theorem sortI_rise {l : List Int} (h : l.Nodup) : (sortI l).Pairwise (· < ·) := by
  have h1 : (sortI l).Pairwise fun a b => decide (a ≤ b) = true := List.pairwise_mergeSort (fun a b c hab hbc => by simp only [decide_eq_true_eq] at *; omega) (fun a b => by simp only [Bool.or_eq_true, decide_eq_true_eq]; omega) l
  have h2 : (sortI l).Nodup := (sortI_perm l).nodup_iff.2 h
  exact (h1.and h2).imp fun ⟨p, q⟩ => by
    have p := of_decide_eq_true p
    have q : ¬ _ = _ := q
    omega
theorem begin_near {n : Nat} {es : List (Int × Int)} (h : RightG n es) {v : Nat} (hv : v < n) : nthR (beginF n es).near v = sortI (nthR (rowsA n es es.length) v) := by
  show nthR (srt (rowsA n es es.length) n) v = _
  rw [srt_at _ _ _ (by rw [rowsA_len]; exact Nat.le_refl _), if_pos hv]
theorem begin_mem {n : Nat} {es : List (Int × Int)} (h : RightG n es) {v : Nat} (hv : v < n) (x : Int) : x ∈ nthR (beginF n es).near v ↔ ∃ j, j < es.length ∧ (ent es j = ((v : Int), x) ∨ ent es j = (x, (v : Int))) := by
  rw [begin_near h hv, (sortI_perm _).mem_iff]
  exact (rowsA_spec h es.length (Nat.le_refl _) v hv).2 x
theorem nthB_rep (n v : Nat) : nthB (List.replicate n false) v = false := by
  unfold nthB
  simp only [List.getD_eq_getElem?_getD, List.getElem?_replicate]
  split <;> rfl
theorem leftN_rep (n i : Nat) : leftN (List.replicate n false) i = i := by
  induction i with
  | zero => rfl
  | succ i ih => rw [leftN, nthB_rep, if_neg Bool.noConfusion, ih]
theorem begin_ok {n : Nat} {es : List (Int × Int)} (h : RightG n es) : RstI n (beginF n es) := by
  refine ⟨⟨⟨?_, ?_, ?_, fun v hv => ?_, fun v hv x hx => ?_⟩, fun a b ha hb hab => ?_, fun a ha haa => ?_⟩, fun v hv => ?_, fun v hv hg => ?_, ?_⟩
  · show (srt (rowsA n es es.length) n).length = n; rw [srt_len, rowsA_len]
  · simp [beginF]
  · simp [beginF]
  · rw [begin_near h hv]; exact sortI_rise (rowsA_spec h _ (Nat.le_refl _) v hv).1
  · obtain ⟨j, hj, hh⟩ := (begin_mem h hv x).1 hx
    obtain ⟨r1, r2, r3, r4, r5⟩ := right_rng h j hj
    rcases hh with hh | hh
    · rw [hh] at r3 r4; exact ⟨r3, r4⟩
    · rw [hh] at r1 r2; exact ⟨r1, r2⟩
  · obtain ⟨j, hj, hh⟩ := (begin_mem h ha _).1 hab
    exact (begin_mem h hb _).2 ⟨j, hj, hh.symm⟩
  · obtain ⟨j, hj, hh⟩ := (begin_mem h ha _).1 haa
    obtain ⟨r1, r2, r3, r4, r5⟩ := right_rng h j hj
    rcases hh with hh | hh <;> (rw [hh] at r5; simp only at r5; omega)
  · left; unfold nth beginF; simp only [List.getD_eq_getElem?_getD, List.getElem?_replicate]; split <;> rfl
  · have : nthB (List.replicate n false) v = true := hg
    rw [nthB_rep] at this; cases this
  · show (n : Int) = leftN (List.replicate n false) n
    rw [leftN_rep]
end Go.Proofs.Ytnmocjhpbobahaa.L
