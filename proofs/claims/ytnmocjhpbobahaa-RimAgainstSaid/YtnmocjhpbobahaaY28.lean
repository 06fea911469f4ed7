/- RB2: slices.Sort as a call. RG: what begin lays, as a plain law. RP: degrees, and the edges that are left, as a plain law. RQ: what is kept by cuts: three neighbours and more. -/
import Derived.Test.YtnmocjhpbobahaaY25
import Derived.Test.YtnmocjhpbobahaaY27
import Derived.Test.YtnmocjhpbobahaaY18
import Derived.Test.YtnmocjhpbobahaaY24
set_option linter.unusedVariables false
set_option linter.unusedSimpArgs false
set_option linter.unnecessarySimpa false
namespace Go.Proofs.Ytnmocjhpbobahaa.L
open Go Go.RowKit
set_option maxRecDepth 100000
def specSort : Spec := fun us => match us with
  | [⟨.one, [.c (.sl true 1 () row)]⟩] => match toInts row with
    | some l => when (l.length ≤ 1000000) (lentSV (.sl true 1 () (IL (sortI l))) (resSV []))
    | none => none
  | _ => none
theorem okSort : SpecOk 50 specSort := by
  intro us R h
  unfold specSort at h
  split at h
  · split at h
    · next row _ l hl =>
      obtain ⟨h1, rfl⟩ := when_eq h
      rw [toInts_eq hl]
      show GoodE Try.prog 50 [one (.c (.sl true 1 () (IL l)))] _
      exact goodSort l h1
    · cases h
  · cases h
@[simp] theorem sSortR {l : List Int} (h : l.length ≤ 1000000) : specSort [⟨.one, [.c (.sl true 1 () (IL l))]⟩] = some (lentSV (.sl true 1 () (IL (sortI l))) (resSV [])) := by
  unfold specSort
  simp only [toInts_map]
  exact when_pos _ h
@[simp] theorem sSortF {row : List (Cell Unit)} : specSort [⟨.one, [.c (.sl false 1 () row)]⟩] = none := rfl
@[simp] theorem lendEff_row {t s : Nat} {p : List Nat} {v : SV Unit} {l : List Int} : lendEff t s p (.sl true 1 () (IL l)) v (lentSV (.sl true 1 () (IL (sortI l))) (resSV [])) = some ⟨[(s, v.setP p (.sl true 1 () (IL (sortI l)))), (t, resSV [])], (t, []) :: (List.range l.length).map (fun i => (s, p ++ [i])), []⟩ := by
  unfold lendEff
  simp only [lentSV, Cell.isOwn, Cell.row, IL_length, sortI_length, true_and, if_true, Cell.withRow]
@[simp] theorem callSort {E : Env} {σ : St Unit} {t : Nat} {l : List Operand} : effCall Try.prog E ΩU σ t 50 l = callO E 50 t (argsOf Try.prog ΩU σ [39] l) := eff_call Try.func50 Try.params50
@[simp] theorem lendSort {E : Env} {σ : St Unit} {t s : Nat} {l : List Operand} : effLend Try.prog E ΩU σ t 50 (.tmp s :: l) = lendO E σ t s 50 [] l := eff_lend Try.func50 Try.params50
@[simp] theorem BL_rep (n : Nat) : List.replicate n (.sc (.bool false) : Cell Unit) = BL (List.replicate n false) := by simp [BL, B]
@[simp] theorem zeroBool : zeroCellsOf Try.prog () 4 = some [.sc (.bool false)] := by kernel_rfl
@[simp] theorem bytesBool : Try.prog.bytesOf 4 = 1 := by kernel_rfl
/-! ### what begin builds -/
def rowsA (n : Nat) (es : List (Int × Int)) : Nat → List (List Int)
  | 0 => List.replicate n []
  | i + 1 => ((rowsA n es i).set (ent es i).1.toNat (nthR (rowsA n es i) (ent es i).1.toNat ++ [(ent es i).2])).set (ent es i).2.toNat (nthR ((rowsA n es i).set (ent es i).1.toNat (nthR (rowsA n es i) (ent es i).1.toNat ++ [(ent es i).2])) (ent es i).2.toNat ++ [(ent es i).1])
def srt (l : List (List Int)) : Nat → List (List Int)
  | 0 => l
  | j + 1 => (srt l j).set j (sortI (nthR (srt l j) j))
def beginF (n : Nat) (es : List (Int × Int)) : Rst := ⟨srt (rowsA n es es.length) n, List.replicate n 0, List.replicate n false, n⟩
theorem rowsA_len (n : Nat) (es : List (Int × Int)) (i : Nat) : (rowsA n es i).length = n := by
  induction i with
  | zero => simp [rowsA]
  | succ i ih => rw [rowsA, List.length_set, List.length_set, ih]
theorem srt_len (l : List (List Int)) (j : Nat) : (srt l j).length = l.length := by
  induction j with
  | zero => rfl
  | succ j ih => rw [srt, List.length_set, ih]
theorem rowsA_le (n : Nat) (es : List (Int × Int)) (i v : Nat) : (nthR (rowsA n es i) v).length ≤ 2 * i := by
  induction i generalizing v with
  | zero => unfold rowsA nthR; simp only [List.getD_eq_getElem?_getD, List.getElem?_replicate]; split <;> simp
  | succ i ih =>
    have hs : ∀ (l : List (List Int)) (x : List Int) (j k : Nat), (∀ u, (nthR l u).length ≤ k) → x.length ≤ k → ∀ u, (nthR (l.set j x) u).length ≤ k := by
      intro l x j k h1 h2 u
      unfold nthR
      simp only [List.getD_eq_getElem?_getD, List.getElem?_set]
      split
      · split
        · exact h2
        · exact Nat.zero_le _
      · have := h1 u; unfold nthR at this; simpa [List.getD_eq_getElem?_getD] using this
    rw [rowsA]
    have h1 : ∀ u, (nthR ((rowsA n es i).set (ent es i).1.toNat (nthR (rowsA n es i) (ent es i).1.toNat ++ [(ent es i).2])) u).length ≤ 2 * i + 1 := hs _ _ _ _ (fun u => by have := ih u; omega) (by rw [List.length_append]; have := ih (ent es i).1.toNat; simp only [List.length_cons, List.length_nil]; omega)
    exact hs _ _ _ _ (fun u => by have := h1 u; omega) (by rw [List.length_append]; have := h1 (ent es i).2.toNat; simp only [List.length_cons, List.length_nil]; omega) v
theorem srt_at (l : List (List Int)) (j v : Nat) (hj : j ≤ l.length) : nthR (srt l j) v = if v < j then sortI (nthR l v) else nthR l v := by
  induction j with
  | zero => simp [srt]
  | succ j ih =>
    rw [srt, nthR_set (by rw [srt_len]; omega)]
    have hh := ih (by omega)
    by_cases h : j = v
    · subst h
      rw [if_pos rfl, if_pos (by omega), hh, if_neg (by omega)]
    · rw [if_neg h, hh]
      by_cases h2 : v < j
      · rw [if_pos h2, if_pos (by omega)]
      · rw [if_neg h2, if_neg (by omega)]
end Go.Proofs.Ytnmocjhpbobahaa.L
namespace Go.Proofs.Ytnmocjhpbobahaa.L
open Go Go.RowKit
set_option maxRecDepth 100000
theorem right_lt {n : Nat} {es : List (Int × Int)} (h : RightG n es) : ∀ (i j : Nat), j < i → i < es.length → ltE (ent es j) (ent es i)
  | 0, j, hj, _ => by omega
  | i + 1, j, hj, hi => by
    have h1 := (h.2 (i + 1) hi).2 (by omega)
    rw [Nat.add_sub_cancel] at h1
    have h1 : ltE (ent es i) (ent es (i + 1)) := h1
    by_cases e : j = i
    · subst e; exact h1
    · have := right_lt h i j (by omega) (by omega)
      unfold ltE at *
      omega
theorem nthR_rep (n v : Nat) : nthR (List.replicate n ([] : List Int)) v = [] := by
  unfold nthR
  simp only [List.getD_eq_getElem?_getD, List.getElem?_replicate]
  split <;> rfl
theorem rowsA_spec {n : Nat} {es : List (Int × Int)} (h : RightG n es) : ∀ i, i ≤ es.length → ∀ v, v < n → (nthR (rowsA n es i) v).Nodup ∧ ∀ x : Int, x ∈ nthR (rowsA n es i) v ↔ ∃ j, j < i ∧ (ent es j = ((v : Int), x) ∨ ent es j = (x, (v : Int)))
  | 0, _, v, hv => by
    rw [show nthR (rowsA n es 0) v = [] from nthR_rep n v]
    exact ⟨List.nodup_nil, fun x => ⟨fun e => absurd e List.not_mem_nil, fun ⟨j, hj, _⟩ => by omega⟩⟩
  | i + 1, hi, v, hv => by
    have ih := rowsA_spec h i (by omega)
    obtain ⟨e1, e2, e3, e4, e5⟩ := right_rng h i (by omega)
    have hlt := fun j hj => right_lt h i j hj (by omega)
    have l1 := rowsA_len n es i
    rw [rowsA]
    generalize hE : ent es i = e at *
    obtain ⟨a', b'⟩ := e
    simp only at e1 e2 e3 e4 e5
    obtain ⟨a, rfl⟩ : ∃ a : Nat, a' = (a : Int) := ⟨a'.toNat, by omega⟩
    obtain ⟨b, rfl⟩ : ∃ b : Nat, b' = (b : Int) := ⟨b'.toNat, by omega⟩
    simp only [Int.toNat_natCast]
    have hab : a ≠ b := by omega
    have hrow : nthR (((rowsA n es i).set a (nthR (rowsA n es i) a ++ [(b : Int)])).set b (nthR ((rowsA n es i).set a (nthR (rowsA n es i) a ++ [(b : Int)])) b ++ [(a : Int)])) v = if b = v then nthR (rowsA n es i) b ++ [(a : Int)] else if a = v then nthR (rowsA n es i) a ++ [(b : Int)] else nthR (rowsA n es i) v := by
      rw [nthR_set (by rw [List.length_set]; omega), nthR_set (by omega), nthR_set (by omega), if_neg hab]
    rw [hrow]
    obtain ⟨n1, m1⟩ := ih v hv
    have old : ∀ x : Int, (∃ j, j < i + 1 ∧ (ent es j = ((v : Int), x) ∨ ent es j = (x, (v : Int)))) ↔ (x ∈ nthR (rowsA n es i) v ∨ (((a : Int), (b : Int)) = ((v : Int), x) ∨ ((a : Int), (b : Int)) = (x, (v : Int)))) := by
      intro x
      rw [m1]
      constructor
      · rintro ⟨j, hj, hh⟩
        by_cases e : j = i
        · subst e; rw [hE] at hh; exact .inr hh
        · exact .inl ⟨j, by omega, hh⟩
      · rintro (⟨j, hj, hh⟩ | hh)
        · exact ⟨j, by omega, hh⟩
        · exact ⟨i, by omega, by rw [hE]; exact hh⟩
    have notin : ∀ x : Int, (((a : Int), (b : Int)) = ((v : Int), x) ∨ ((a : Int), (b : Int)) = (x, (v : Int))) → x ∉ nthR (rowsA n es i) v := by
      intro x hx hm
      obtain ⟨j, hj, hh⟩ := (m1 x).1 hm
      have hl := hlt j hj
      unfold ltE at hl
      obtain ⟨r1, r2, r3, r4, r5⟩ := right_rng h j (by omega)
      rcases hx with hx | hx <;> rcases hh with hh | hh <;> (rw [hh] at hl r5; simp only [Prod.mk.injEq] at hx hl r5; omega)
    have app : ∀ (y : Int), (((a : Int), (b : Int)) = ((v : Int), y) ∨ ((a : Int), (b : Int)) = (y, (v : Int))) → (nthR (rowsA n es i) v ++ [y]).Nodup := by
      intro y hy
      rw [List.nodup_append]
      refine ⟨n1, by simp, fun z hz w hw => ?_⟩
      rw [List.mem_singleton] at hw
      subst hw
      rintro rfl
      exact notin _ hy hz
    by_cases hbv : b = v
    · subst hbv
      rw [if_pos rfl]
      refine ⟨app a (.inr rfl), fun x => ?_⟩
      rw [old, List.mem_append, List.mem_singleton]
      simp only [Prod.mk.injEq]
      constructor
      · rintro (q | q)
        · exact .inl q
        · exact .inr (.inr ⟨q.symm, trivial⟩)
      · rintro (q | ⟨q, _⟩ | ⟨q, _⟩)
        · exact .inl q
        · omega
        · exact .inr q.symm
    · rw [if_neg hbv]
      by_cases hav : a = v
      · subst hav
        rw [if_pos rfl]
        refine ⟨app b (.inl rfl), fun x => ?_⟩
        rw [old, List.mem_append, List.mem_singleton]
        simp only [Prod.mk.injEq]
        constructor
        · rintro (q | q)
          · exact .inl q
          · exact .inr (.inl ⟨trivial, q.symm⟩)
        · rintro (q | ⟨_, q⟩ | ⟨_, q⟩)
          · exact .inl q
          · exact .inr q.symm
          · omega
      · rw [if_neg hav]
        refine ⟨n1, fun x => ?_⟩
        rw [old]
        simp only [Prod.mk.injEq]
        constructor
        · exact .inl
        · rintro (q | ⟨q, _⟩ | ⟨_, q⟩)
          · exact q
          · omega
          · omega
theorem sortI_perm (l : List Int) : (sortI l).Perm l := List.mergeSort_perm l _
theorem sortI_rise {l : List Int} (h : l.Nodup) : (sortI l).Pairwise (· < ·) := by
  have h1 : (sortI l).Pairwise fun a b => decide (a ≤ b) = true := List.pairwise_mergeSort (fun a b c hab hbc => by simp only [decide_eq_true_eq] at *; omega) (fun a b => by simp only [Bool.or_eq_true, decide_eq_true_eq]; omega) l
  have h2 : (sortI l).Nodup := (sortI_perm l).nodup_iff.2 h
  exact (h1.and h2).imp fun ⟨p, q⟩ => by
    have p := of_decide_eq_true p
    have q : ¬ _ = _ := q
    omega
theorem begin_near {n : Nat} {es : List (Int × Int)} (h : RightG n es) {v : Nat} (hv : v < n) : nthR (beginF n es).near v = sortI (nthR (rowsA n es es.length) v) := by
  show nthR (srt (rowsA n es es.length) n) v = _
  rw [srt_at _ _ _ (by rw [rowsA_len]; exact Nat.le_refl _), if_pos hv]
theorem begin_mem {n : Nat} {es : List (Int × Int)} (h : RightG n es) {v : Nat} (hv : v < n) (x : Int) : x ∈ nthR (beginF n es).near v ↔ ∃ j, j < es.length ∧ (ent es j = ((v : Int), x) ∨ ent es j = (x, (v : Int))) := by
  rw [begin_near h hv, (sortI_perm _).mem_iff]
  exact (rowsA_spec h es.length (Nat.le_refl _) v hv).2 x
theorem nthB_rep (n v : Nat) : nthB (List.replicate n false) v = false := by
  unfold nthB
  simp only [List.getD_eq_getElem?_getD, List.getElem?_replicate]
  split <;> rfl
theorem leftN_rep (n i : Nat) : leftN (List.replicate n false) i = i := by
  induction i with
  | zero => rfl
  | succ i ih => rw [leftN, nthB_rep, if_neg Bool.noConfusion, ih]
theorem begin_ok {n : Nat} {es : List (Int × Int)} (h : RightG n es) : RstI n (beginF n es) := by
  refine ⟨⟨⟨?_, ?_, ?_, fun v hv => ?_, fun v hv x hx => ?_⟩, fun a b ha hb hab => ?_, fun a ha haa => ?_⟩, fun v hv => ?_, fun v hv hg => ?_, ?_⟩
  · show (srt (rowsA n es es.length) n).length = n; rw [srt_len, rowsA_len]
  · simp [beginF]
  · simp [beginF]
  · rw [begin_near h hv]; exact sortI_rise (rowsA_spec h _ (Nat.le_refl _) v hv).1
  · obtain ⟨j, hj, hh⟩ := (begin_mem h hv x).1 hx
    obtain ⟨r1, r2, r3, r4, r5⟩ := right_rng h j hj
    rcases hh with hh | hh
    · rw [hh] at r3 r4; exact ⟨r3, r4⟩
    · rw [hh] at r1 r2; exact ⟨r1, r2⟩
  · obtain ⟨j, hj, hh⟩ := (begin_mem h ha _).1 hab
    exact (begin_mem h hb _).2 ⟨j, hj, hh.symm⟩
  · obtain ⟨j, hj, hh⟩ := (begin_mem h ha _).1 haa
    obtain ⟨r1, r2, r3, r4, r5⟩ := right_rng h j hj
    rcases hh with hh | hh <;> (rw [hh] at r5; simp only at r5; omega)
  · left; unfold nth beginF; simp only [List.getD_eq_getElem?_getD, List.getElem?_replicate]; split <;> rfl
  · have : nthB (List.replicate n false) v = true := hg
    rw [nthB_rep] at this; cases this
  · show (n : Int) = leftN (List.replicate n false) n
    rw [leftN_rep]
end Go.Proofs.Ytnmocjhpbobahaa.L
namespace Go.Proofs.Ytnmocjhpbobahaa.L
open Go Go.RowKit
set_option maxRecDepth 100000
theorem degF_rows {n : Nat} {es : List (Int × Int)} (h : RightG n es) : ∀ i, i ≤ es.length → ∀ v, v < n → nth (degF n es i) v = (nthR (rowsA n es i) v).length
  | 0, _, v, hv => by
    rw [show nthR (rowsA n es 0) v = [] from nthR_rep n v]
    unfold degF nth
    simp [hv]
  | i + 1, hi, v, hv => by
    have ih := degF_rows h i (by omega)
    obtain ⟨e1, e2, e3, e4, e5⟩ := right_rng h i (by omega)
    have l1 := rowsA_len n es i
    have l2 := degF_len n es i
    rw [rowsA, degF]
    generalize ent es i = e at *
    obtain ⟨a', b'⟩ := e
    simp only at e1 e2 e3 e4 e5
    obtain ⟨a, rfl⟩ : ∃ a : Nat, a' = (a : Int) := ⟨a'.toNat, by omega⟩
    obtain ⟨b, rfl⟩ : ∃ b : Nat, b' = (b : Int) := ⟨b'.toNat, by omega⟩
    simp only [Int.toNat_natCast]
    have hab : a ≠ b := by omega
    rw [nthR_set (by rw [List.length_set]; omega), nthR_set (by omega), nthR_set (by omega), if_neg hab, nth_bump (by rw [bump_len]; omega), nth_bump (by omega), nth_bump (by omega), if_neg hab]
    by_cases hb : b = v
    · subst hb
      rw [if_pos rfl, if_pos rfl, ih b hv, List.length_append]; simp
    · rw [if_neg hb, if_neg hb]
      by_cases ha : a = v
      · subst ha; rw [if_pos rfl, if_pos rfl, ih a hv, List.length_append]; simp
      · rw [if_neg ha, if_neg ha, ih v hv]
theorem degF_begin {n : Nat} {es : List (Int × Int)} (h : RightG n es) {v : Nat} (hv : v < n) : nth (degF n es es.length) v = deg (beginF n es) v := by
  rw [degF_rows h _ (Nat.le_refl _) v hv]
  unfold deg
  rw [begin_near h hv, (sortI_perm _).length_eq]
/-! ### the edges that are left -/
end Go.Proofs.Ytnmocjhpbobahaa.L
namespace Go.Proofs.Ytnmocjhpbobahaa.L
open Go Go.RowKit
set_option maxRecDepth 100000
/-- Each that is left has three neighbours and more; who is marked 1 has just three. -/
structure RstD (n : Nat) (r : Rst) : Prop extends RstI n r where
  d3 : ∀ v, v < n → nthB r.gone v = false → 3 ≤ deg r v
  lf : ∀ v, v < n → nthB r.gone v = false → nth r.mark v = 1 → deg r v = 3
theorem innB_no {r : Rst} {v : Nat} (h : innB r v = false) : nth r.mark v ≠ 2 ∧ deg r v ≤ 3 := by
  unfold innB at h
  have h := of_decide_eq_false h
  unfold deg
  exact ⟨fun e => h (.inl e), by omega⟩
theorem wide_keeps {n : Nat} {r : Rst} {u x y s t : Nat} (h : RstD n r) (w : WideI n r u x y s t) (hd : (wideF r u x y s t).2 = true) : RstD n (wideF r u x y s t).1 := by
  have hI := (w.step h.toRstI).1
  unfold wideF at hd hI ⊢
  split at hd
  · cases hd
  · next hn =>
    rw [if_neg hn] at hI ⊢
    have hst : s ≠ t := fun e => hn (.inl e)
    have is : innB r s = false := by cases e : innB r s with
      | false => rfl
      | true => exact absurd (.inr (.inr (.inr (.inl e)))) hn
    have it : innB r t = false := by cases e : innB r t with
      | false => rfl
      | true => exact absurd (.inr (.inr (.inr (.inr e)))) hn
    have hxy : x ≠ y := by have := w.xy; omega
    have gl : y < r.gone.length := by rw [h.toRstOk.gone]; exact w.yn
    have hS := h.toRstS
    have h1 := hS.leave w.yn
    have dg : ∀ v, v < n → v ≠ y → deg ((r.leave y).join x t) v = if t = v ∨ x = v then (if (y : Int) ∈ nthR r.near v then deg r v - 1 else deg r v) + 1 else if (y : Int) ∈ nthR r.near v then deg r v - 1 else deg r v := by
      intro v hv hvy
      rw [join_deg h1.toRstOk w.xn w.tn, leave_deg hS w.yn hv hvy]
    have ynear : ∀ v, v < n → ((y : Int) ∈ nthR r.near v ↔ (v = u ∨ v = x ∨ v = t)) := by
      intro v hv
      constructor
      · intro hm
        have := w.ay v (hS.sym v y hv w.yn hm)
        omega
      · rintro (rfl | rfl | rfl)
        · exact hS.sym y _ w.yn hv w.yu
        · exact hS.sym y _ w.yn hv w.yx
        · exact hS.sym y _ w.yn hv w.yt
    have gon : ∀ v, nthB ((r.leave y).join x t).gone v = if y = v then true else nthB r.gone v := fun v => by
      show nthB (r.gone.set y true) v = _
      rw [nthB_set gl]
    have m0 : ((r.leave y).join x t).mark = r.mark := rfl
    have ml := h.toRstOk.mark
    have mks : ∀ v, nth (((((((r.leave y).join x t).mark).set u 2).set x 1).set s 1).set t 1) v = if t = v then 1 else if s = v then 1 else if x = v then 1 else if u = v then 2 else nth r.mark v := fun v => by
      rw [m0]
      rw [nth_set (by simp only [List.length_set]; have := w.tn; omega), nth_set (by simp only [List.length_set]; have := w.sn; omega), nth_set (by simp only [List.length_set]; have := w.xn; omega), nth_set (by have := w.un; omega)]
    have key : ∀ v, v < n → v ≠ y → nthB r.gone v = false → 3 ≤ deg ((r.leave y).join x t) v ∧ ((v = x ∨ v = s ∨ v = t) → deg ((r.leave y).join x t) v = 3) ∧ (v ≠ u → deg ((r.leave y).join x t) v = deg r v) := by
      intro v hv hvy hg
      have d3 := h.d3 v hv hg
      have hyn := ynear v hv
      rw [dg v hv hvy]
      have hu := w.du; have hx := w.dx; have hsu := w.su; have hsx := w.sx; have htu := w.tu; have htx := w.tx; have hux := w.ux
      have ds := (innB_no is).2; have dt := (innB_no it).2
      by_cases e1 : v = u
      · subst e1
        rw [if_neg (by rintro (e | e) <;> omega), if_pos (hyn.2 (.inl rfl))]
        refine ⟨by omega, fun e => by omega, fun e => absurd rfl e⟩
      · by_cases e2 : v = x
        · subst e2
          rw [if_pos (.inr rfl), if_pos (hyn.2 (.inr (.inl rfl)))]
          refine ⟨by omega, fun _ => by omega, fun _ => by omega⟩
        · by_cases e3 : v = t
          · subst e3
            rw [if_pos (.inl rfl), if_pos (hyn.2 (.inr (.inr rfl)))]
            refine ⟨by omega, fun _ => by omega, fun _ => by omega⟩
          · rw [if_neg (by rintro (e | e) <;> omega), if_neg (fun e => by rcases hyn.1 e with e | e | e <;> contradiction)]
            refine ⟨d3, fun e => ?_, fun _ => rfl⟩
            obtain rfl : v = s := by omega
            omega
    refine ⟨hI, fun v hv hg => ?_, fun v hv hg hm => ?_⟩
    · have hg : nthB ((r.leave y).join x t).gone v = false := hg
      rw [gon] at hg
      by_cases e : y = v
      · rw [if_pos e] at hg; cases hg
      · rw [if_neg e] at hg
        exact (key v hv (fun e' => e e'.symm) hg).1
    · have hg : nthB ((r.leave y).join x t).gone v = false := hg
      rw [gon] at hg
      by_cases e : y = v
      · rw [if_pos e] at hg; cases hg
      · rw [if_neg e] at hg
        obtain ⟨_, k2, k3⟩ := key v hv (fun e' => e e'.symm) hg
        have hm : nth (((((((r.leave y).join x t).mark).set u 2).set x 1).set s 1).set t 1) v = 1 := hm
        rw [mks] at hm
        show deg ((r.leave y).join x t) v = 3
        by_cases q1 : t = v
        · exact k2 (.inr (.inr q1.symm))
        · rw [if_neg q1] at hm
          by_cases q2 : s = v
          · exact k2 (.inr (.inl q2.symm))
          · rw [if_neg q2] at hm
            by_cases q3 : x = v
            · exact k2 (.inl q3.symm)
            · rw [if_neg q3] at hm
              by_cases q4 : u = v
              · rw [if_pos q4] at hm; omega
              · rw [if_neg q4] at hm
                rw [k3 (fun e' => q4 e'.symm)]
                exact h.lf v hv hg hm
theorem layM_one {n : Nat} : ∀ {l : List (Int × Int)} {m : List Int}, m.length = n → (∀ e ∈ l, ∃ x : Nat, e.1 = x ∧ x < n) → ∀ v, nth (layM m l) v = 1 → nth m v = 1 ∨ ∃ e ∈ l, e.1 = (v : Int) ∧ e.2 = 1
  | [], m, _, _, v, h => .inl h
  | e :: l, m, hl, he, v, h => by
    obtain ⟨x, hx, hxn⟩ := he e List.mem_cons_self
    unfold layM at h
    rw [List.foldl_cons, hx, Int.toNat_natCast] at h
    rcases layM_one (l := l) (m := m.set x e.2) (by rw [List.length_set]; exact hl) (fun e' h' => he e' (List.mem_cons_of_mem _ h')) v h with h1 | ⟨e', h1, h2⟩
    · rw [nth_set (by omega)] at h1
      split at h1
      · next q => exact .inr ⟨e, List.mem_cons_self, by omega, h1⟩
      · exact .inl h1
    · exact .inr ⟨e', List.mem_cons_of_mem _ h1, h2⟩
theorem wants_bad {r : Rst} {a b c p q s : Nat} (h : (wantsF r a b c p q s).2 = true) {e : Int × Int} (he : e ∈ (wantsF r a b c p q s).1) : badW r e = false := by
  unfold wantsF at h he
  split at h
  · cases h
  · next hn =>
    rw [if_neg hn] at he
    cases hb : badW r e with
    | false => rfl
    | true => exact absurd (.inr (.inr (.inr (.inr (.inr (List.any_eq_true.2 ⟨e, he, hb⟩)))))) hn
theorem leftN_drop {g : List Bool} {n v : Nat} (hv : v < n) (hl : g.length = n) (h0 : nthB g v = false) : leftN g n = leftN (g.set v true) n + 1 := by
  have := leftN_set (by omega : v < g.length) h0 n
  rw [if_pos hv] at this
  omega
theorem six_left {g : List Bool} {n : Nat} (hl : g.length = n) : ∀ {l : List Nat}, l.Nodup → (∀ v ∈ l, v < n ∧ nthB g v = false) → l.length ≤ leftN g n := by
  intro l
  induction l generalizing g with
  | nil => intro _ _; exact Nat.zero_le _
  | cons v l ih =>
    intro hn h
    rw [List.nodup_cons] at hn
    obtain ⟨h1, h2⟩ := h v List.mem_cons_self
    have := ih (g := g.set v true) (by rw [List.length_set]; exact hl) hn.2 (fun u hu => by
      obtain ⟨h3, h4⟩ := h u (List.mem_cons_of_mem _ hu)
      refine ⟨h3, ?_⟩
      rw [nthB_set (by omega), if_neg (fun e => hn.1 (by rw [e]; exact hu))]
      exact h4)
    have e := leftN_drop h1 hl h2
    simp only [List.length_cons]
    omega
theorem small_keeps {n : Nat} {r : Rst} {a b c p q s : Nat} (h : RstD n r) (w : SmallI n r a b c p q s) (hd : (smallF r a b c p q s).2 = true) : RstD n (smallF r a b c p q s).1 ∧ 6 ≤ r.count := by
  have hI := (w.step h.toRstI).1
  have h1 := w.ab; have h2 := w.bc; have h3 := w.cn
  have bn : b < n := by omega
  have an : a < n := by omega
  have cn := w.cn
  unfold smallF at hd hI ⊢
  split at hd
  · next hw =>
    rw [if_pos hw] at hI ⊢
    obtain ⟨n1, n2, n3⟩ := wants_ne hw
    have hS := h.toRstS
    have hS1 := hS.leave bn
    have hS2 := hS1.leave cn
    have hS3 := hS2.join an w.qn (fun e => w.qa.2.1 e.symm) (w.noq h.toRstI hw)
    obtain ⟨p1, p2, p3⟩ := w.pa
    obtain ⟨q1, q2, q3⟩ := w.qa
    obtain ⟨s1, s2, s3⟩ := w.sa
    have ba := hS.sym a b an bn w.eab
    have ca := hS.sym a c an cn w.eac
    have cb := hS.sym b c bn cn w.ebc
    have pm := hS.sym a p an w.pn w.eap
    have qm := hS.sym b q bn w.qn w.ebq
    have sm := hS.sym c s cn w.sn w.ecs
    have bnear : ∀ v, v < n → ((b : Int) ∈ nthR r.near v ↔ (v = a ∨ v = c ∨ v = q)) := by
      intro v hv
      constructor
      · intro hm
        have := w.ba v (hS.sym v b hv bn hm)
        omega
      · rintro (rfl | rfl | rfl)
        · exact w.eab
        · exact cb
        · exact qm
    have cnear : ∀ v, v < n → ((c : Int) ∈ nthR r.near v ↔ (v = a ∨ v = b ∨ v = s)) := by
      intro v hv
      constructor
      · intro hm
        have := w.ca v (hS.sym v c hv cn hm)
        omega
      · rintro (rfl | rfl | rfl)
        · exact w.eac
        · exact w.ebc
        · exact sm
    have c1near : ∀ v, v < n → v ≠ b → ((c : Int) ∈ nthR (r.leave b).near v ↔ (v = a ∨ v = s)) := by
      intro v hv hvb
      rw [leave_mem hS bn hv, cnear v hv]
      constructor
      · rintro ⟨e | e | e, _⟩
        · exact .inl e
        · exact absurd e hvb
        · exact .inr e
      · rintro (e | e)
        · exact ⟨.inl e, hvb, by omega⟩
        · exact ⟨.inr (.inr e), hvb, by omega⟩
    have dg : ∀ v, v < n → v ≠ b → v ≠ c → nthB r.gone v = false → deg ((((r.leave b).leave c).join a q).join a s) v = deg r v := by
      intro v hv hvb hvc hg
      have d3 := h.d3 v hv hg
      have hda := w.da
      rw [join_deg hS3.toRstOk an w.sn, join_deg hS2.toRstOk an w.qn, leave_deg hS1 cn hv hvc, leave_deg hS bn hv hvb]
      have e1 := bnear v hv
      have e2 := c1near v hv hvb
      by_cases va : v = a
      · subst va
        rw [if_pos (.inr rfl), if_pos (.inr rfl), if_pos (e2.2 (.inl rfl)), if_pos (e1.2 (.inl rfl))]
        omega
      · by_cases vq : v = q
        · subst vq
          rw [if_neg (by rintro (e | e) <;> omega), if_pos (.inl rfl), if_neg (fun e => by rcases e2.1 e with e | e <;> omega), if_pos (e1.2 (.inr (.inr rfl)))]
          omega
        · by_cases vs : v = s
          · subst vs
            rw [if_pos (.inl rfl), if_neg (by rintro (e | e) <;> omega), if_pos (e2.2 (.inr rfl)), if_neg (fun e => by rcases e1.1 e with e | e | e <;> omega)]
            omega
          · rw [if_neg (by rintro (e | e) <;> omega), if_neg (by rintro (e | e) <;> omega), if_neg (fun e => by rcases e2.1 e with e | e <;> omega), if_neg (fun e => by rcases e1.1 e with e | e | e <;> omega)]
    have gl : b < r.gone.length := by rw [h.toRstOk.gone]; exact bn
    have gl2 : c < (r.gone.set b true).length := by rw [List.length_set, h.toRstOk.gone]; exact cn
    have gon : ∀ v, nthB ((r.gone.set b true).set c true) v = false → v ≠ b ∧ v ≠ c ∧ nthB r.gone v = false := fun v hg => by
      rw [nthB_set gl2] at hg
      by_cases e : c = v
      · rw [if_pos e] at hg; cases hg
      · rw [if_neg e, nthB_set gl] at hg
        by_cases e2 : b = v
        · rw [if_pos e2] at hg; cases hg
        · rw [if_neg e2] at hg
          exact ⟨fun q => e2 q.symm, fun q => e q.symm, hg⟩
    have ml := h.toRstOk.mark
    refine ⟨⟨hI, fun v hv hg => ?_, fun v hv hg hm => ?_⟩, ?_⟩
    · obtain ⟨e1, e2, e3⟩ := gon v hg
      show 3 ≤ deg ((((r.leave b).leave c).join a q).join a s) v
      rw [dg v hv e1 e2 e3]
      exact h.d3 v hv e3
    · obtain ⟨e1, e2, e3⟩ := gon v hg
      show deg ((((r.leave b).leave c).join a q).join a s) v = 3
      rw [dg v hv e1 e2 e3]
      have hm : nth (layM (r.mark.set a 1) (wantsF r a b c p q s).1) v = 1 := hm
      have d3 := h.d3 v hv e3
      rcases layM_one (n := n) (by rw [List.length_set]; exact ml) (fun e he => wantsF_mem w.pn w.qn w.sn he) v hm with k | ⟨e, he, k1, k2⟩
      · rw [nth_set (by omega)] at k
        by_cases va : a = v
        · subst va; exact w.da
        · rw [if_neg va] at k
          exact h.lf v hv e3 k
      · have hb := wants_bad hw he
        unfold badW at hb
        rw [k1, k2, Int.toNat_natCast] at hb
        simp only [decide_true, Bool.true_and, Bool.or_eq_false_iff] at hb
        have := (innB_no hb.2).2
        omega
    · have hl := six_left (g := r.gone) (n := n) h.toRstOk.gone (l := [a, b, c, p, q, s]) (by
        simp only [List.nodup_cons, List.mem_cons, List.not_mem_nil, or_false, not_or, List.nodup_nil, and_true, not_false_eq_true]
        omega) (by
        intro v hv
        simp only [List.mem_cons, List.not_mem_nil, or_false] at hv
        rcases hv with rfl | rfl | rfl | rfl | rfl | rfl
        · exact ⟨an, h.left an w.eab⟩
        · exact ⟨bn, h.left bn w.ebc⟩
        · exact ⟨cn, h.left cn w.ecs⟩
        · exact ⟨w.pn, h.left w.pn pm⟩
        · exact ⟨w.qn, h.left w.qn qm⟩
        · exact ⟨w.sn, h.left w.sn sm⟩)
      have := h.cnt
      simp only [List.length_cons, List.length_nil] at hl
      omega
  · cases hd
theorem do_keeps {n : Nat} {r : Rst} {a b c : Nat} {p q s : Int} (h : RstD n r) (k : CutI n r a b c p q s) (hd : (doF r ((a : Int), (b : Int), (c : Int), p, q, s)).2 = true) :
    RstD n (doF r ((a : Int), (b : Int), (c : Int), p, q, s)).1 ∧ 4 ≤ (doF r ((a : Int), (b : Int), (c : Int), p, q, s)).1.count ∧ r.count - 2 ≤ (doF r ((a : Int), (b : Int), (c : Int), p, q, s)).1.count ∧ (doF r ((a : Int), (b : Int), (c : Int), p, q, s)).1.count ≤ r.count - 1 := by
  have hc := k.cnt
  rcases cut_kinds h.toRstI k with ⟨p', q', s', rfl, rfl, rfl, w⟩ | ⟨q', s', rfl, rfl, rfl, w⟩ | ⟨p', s', rfl, rfl, rfl, w⟩ | ⟨p', q', rfl, rfl, rfl, w⟩
  · rw [doF_small] at hd ⊢
    obtain ⟨k1, k2⟩ := small_keeps h w hd
    have := (w.step h.toRstI).2 hd
    exact ⟨k1, by omega, by omega, by omega⟩
  · rw [doF_wide' r _ _ _ _ _ _ (by omega), wideC_0] at hd ⊢
    have := (w.step h.toRstI).2 hd
    exact ⟨wide_keeps h w hd, by omega, by omega, by omega⟩
  · rw [doF_wide' r _ _ _ _ _ _ (by omega), wideC_1] at hd ⊢
    have := (w.step h.toRstI).2 hd
    exact ⟨wide_keeps h w hd, by omega, by omega, by omega⟩
  · rw [doF_wide' r _ _ _ _ _ _ (by omega), wideC_2] at hd ⊢
    have := (w.step h.toRstI).2 hd
    exact ⟨wide_keeps h w hd, by omega, by omega, by omega⟩
end Go.Proofs.Ytnmocjhpbobahaa.L
