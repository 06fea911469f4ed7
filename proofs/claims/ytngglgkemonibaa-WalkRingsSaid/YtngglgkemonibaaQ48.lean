/- Rounds of a ring, forth and back: walk.Turn tells the same row of each. -/
import Derived.Test.YtngglgkemonibaaQ47
set_option linter.unusedVariables false
set_option linter.unusedSimpArgs false
set_option linter.unnecessarySimpa false
namespace Go.Proofs.Ytngglgkemonibaa.P
open Go.RowKit Go.Proofs.YtngglgkemonibaaW.PrintWords Go.Proofs.YtngglgkemonibaaW.PrintMore Go.Proofs.YtngglgkemonibaaW.PrintLast
set_option linter.unusedVariables false
set_option linter.unusedSimpArgs false

theorem rotL_at (c : List Int) (f i : Nat) (hi : i < c.length) : (rotL c f).getD i 0 = c.getD ((f + i) % c.length) 0 := by
  rw [List.getD_eq_getElem?_getD]; unfold rotL; rw [List.getElem?_map, List.getElem?_range hi]; rfl
theorem revL_at (c : List Int) (f i : Nat) (hi : i < c.length) : (revL c f).getD i 0 = c.getD ((f + c.length - i) % c.length) 0 := by
  rw [List.getD_eq_getElem?_getD]; unfold revL; rw [List.getElem?_map, List.getElem?_range hi]; rfl
theorem ext_getD {a b : List Int} (hl : a.length = b.length) (h : ∀ i, i < a.length → a.getD i 0 = b.getD i 0) : a = b := by
  apply List.ext_getElem hl
  intro i h1 h2
  have := h i h1
  rw [List.getD_eq_getElem?_getD, List.getElem?_eq_getElem h1, List.getD_eq_getElem?_getD, List.getElem?_eq_getElem h2] at this
  exact this
def Round (c t : List Int) : Prop := ∃ f, f < c.length ∧ (t = rotL c f ∨ t = revL c f)
theorem round_length {c t : List Int} (h : Round c t) : t.length = c.length := by
  obtain ⟨f, _, rfl | rfl⟩ := h
  · exact rotL_length c f
  · exact revL_length c f
theorem rot_rot (c : List Int) (f g : Nat) (hf : f < c.length) (hg : g < c.length) : rotL (rotL c f) g = rotL c ((f + g) % c.length) := by
  refine ext_getD (by simp only [rotL_length]) (fun i hi => ?_)
  rw [rotL_length, rotL_length] at hi
  rw [rotL_at _ _ _ (by rw [rotL_length]; exact hi), rotL_length, rotL_at _ _ _ (Nat.mod_lt _ (by omega)), rotL_at _ _ _ hi, Nat.add_mod_mod, Nat.mod_add_mod, Nat.add_assoc]
theorem rev_rot (c : List Int) (f g : Nat) (hf : f < c.length) (hg : g < c.length) : revL (rotL c f) g = revL c ((f + g) % c.length) := by
  refine ext_getD (by simp only [rotL_length, revL_length]) (fun i hi => ?_)
  rw [revL_length, rotL_length] at hi
  rw [revL_at _ _ _ (by rw [rotL_length]; exact hi), rotL_length, rotL_at _ _ _ (Nat.mod_lt _ (by omega)), revL_at _ _ _ hi, Nat.add_mod_mod,
    show (f + g) % c.length + c.length - i = (f + g) % c.length + (c.length - i) by omega, Nat.mod_add_mod]
  congr 2; omega
theorem rot_rev (c : List Int) (f g : Nat) (hf : f < c.length) (hg : g < c.length) : rotL (revL c f) g = revL c ((f + c.length - g) % c.length) := by
  refine ext_getD (by simp only [rotL_length, revL_length]) (fun i hi => ?_)
  rw [rotL_length, revL_length] at hi
  rw [rotL_at _ _ _ (by rw [revL_length]; exact hi), revL_length, revL_at _ _ _ (Nat.mod_lt _ (by omega)), revL_at _ _ _ hi,
    show (f + c.length - g) % c.length + c.length - i = (f + c.length - g) % c.length + (c.length - i) by omega, Nat.mod_add_mod]
  rcases Nat.lt_or_ge (g + i) c.length with h | h
  · rw [Nat.mod_eq_of_lt h, show f + c.length - g + (c.length - i) = f + c.length - (g + i) + c.length by omega, Nat.add_mod_right]
  · rw [show (g + i) % c.length = g + i - c.length by rw [Nat.mod_eq_sub_mod h, Nat.mod_eq_of_lt (by omega)], show f + c.length - g + (c.length - i) = f + c.length - (g + i - c.length) by omega]
theorem rev_rev (c : List Int) (f g : Nat) (hf : f < c.length) (hg : g < c.length) : revL (revL c f) g = rotL c ((f + c.length - g) % c.length) := by
  refine ext_getD (by simp only [rotL_length, revL_length]) (fun i hi => ?_)
  rw [revL_length, revL_length] at hi
  rw [revL_at _ _ _ (by rw [revL_length]; exact hi), revL_length, revL_at _ _ _ (Nat.mod_lt _ (by omega)), rotL_at _ _ _ hi, Nat.mod_add_mod]
  rcases Nat.lt_or_ge g i with h | h
  · rw [Nat.mod_eq_of_lt (show g + c.length - i < c.length by omega), show f + c.length - g + i = f + c.length - (g + c.length - i) + c.length by omega, Nat.add_mod_right]
  · rw [show (g + c.length - i) % c.length = g - i by rw [Nat.mod_eq_sub_mod (by omega), Nat.mod_eq_of_lt (by omega)]; omega, show f + c.length - g + i = f + c.length - (g - i) by omega]
theorem round_trans {c t u : List Int} (h : Round c t) (h' : Round t u) : Round c u := by
  have hl := round_length h
  obtain ⟨f, hf, h⟩ := h
  obtain ⟨g, hg, h'⟩ := h'
  rw [hl] at hg
  have hp : 0 < c.length := by omega
  rcases h with rfl | rfl
  · refine ⟨(f + g) % c.length, Nat.mod_lt _ hp, ?_⟩
    rcases h' with rfl | rfl
    · exact .inl (rot_rot c f g hf hg)
    · exact .inr (rev_rot c f g hf hg)
  · refine ⟨(f + c.length - g) % c.length, Nat.mod_lt _ hp, ?_⟩
    rcases h' with rfl | rfl
    · exact .inr (rot_rev c f g hf hg)
    · exact .inl (rev_rev c f g hf hg)
theorem round_perm {c t : List Int} (h : Round c t) : t.Perm c := by
  obtain ⟨f, hf, rfl | rfl⟩ := h
  · rw [rotL_ring c f hf]
    exact List.perm_append_comm.trans (by rw [List.take_append_drop])
  · rw [revL_ring c f hf]
    refine ((List.Perm.refl _).append (List.reverse_perm _)).trans ?_
    rw [List.take_append_drop, rotL_ring c f hf]
    exact List.perm_append_comm.trans (by rw [List.take_append_drop])
theorem round_min {c t : List Int} (h : Round c t) : Lib.minOf t = Lib.minOf c := by
  have hp := round_perm h
  have hl := round_length h
  obtain ⟨f, hf, _⟩ := h
  have h1 := minOf_le (hp.mem_iff.1 (minOf_mem (l := t) (by omega)))
  have h2 := minOf_le (hp.mem_iff.2 (minOf_mem (l := c) (by omega)))
  omega
theorem getD_inj {c : List Int} (hnd : c.Nodup) {i j : Nat} (hi : i < c.length) (hj : j < c.length) (h : c.getD i 0 = c.getD j 0) : i = j := by
  rw [List.getD_eq_getElem?_getD, List.getElem?_eq_getElem hi, List.getD_eq_getElem?_getD, List.getElem?_eq_getElem hj] at h
  exact (List.getElem_inj hnd).1 h
/-- what Turn's row is like, and that nothing else is like it -/
def Like (c t : List Int) : Prop := Round c t ∧ t.getD 0 0 = Lib.minOf c ∧ t.getD 1 0 < t.getD (c.length - 1) 0
theorem like_two {c t : List Int} (h3 : 3 ≤ c.length) (hnd : c.Nodup) (h : Like c t) :
    t = (if (rotL c (fidx (Lib.minOf c) c)).getD 1 0 < (rotL c (fidx (Lib.minOf c) c)).getD (c.length - 1) 0 then rotL c (fidx (Lib.minOf c) c) else revL c (fidx (Lib.minOf c) c)) := by
  have hmem := minOf_mem (l := c) (by omega)
  have hp := fidx_lt hmem
  have hg : c.getD (fidx (Lib.minOf c) c) 0 = Lib.minOf c := fidx_get hmem
  obtain ⟨⟨f, hf, h⟩, h0, h1⟩ := h
  have hfp : f = fidx (Lib.minOf c) c := by
    refine getD_inj hnd hf hp ?_
    rw [hg, ← h0]
    rcases h with rfl | rfl
    · rw [rotL_at c f 0 (by omega), Nat.add_zero, Nat.mod_eq_of_lt hf]
    · rw [revL_at c f 0 (by omega), Nat.sub_zero, Nat.add_mod_right, Nat.mod_eq_of_lt hf]
  subst hfp
  generalize fidx (Lib.minOf c) c = p at *
  have e1 : (revL c p).getD 1 0 = (rotL c p).getD (c.length - 1) 0 := by
    rw [revL_at c p 1 (by omega), rotL_at c p _ (by omega)]; congr 2; omega
  have e2 : (revL c p).getD (c.length - 1) 0 = (rotL c p).getD 1 0 := by
    rw [revL_at c p _ (by omega), rotL_at c p 1 (by omega)]; congr 2; omega
  rcases h with rfl | rfl
  · rw [if_pos h1]
  · rw [e1, e2] at h1; rw [if_neg (by omega)]
theorem turn_like {c : List Int} (h3 : 3 ≤ c.length) (hnd : c.Nodup) : Like c (turnRow c) := by
  have hmem := minOf_mem (l := c) (by omega)
  have hp := fidx_lt hmem
  have hg : c.getD (fidx (Lib.minOf c) c) 0 = Lib.minOf c := fidx_get hmem
  have hring : ringOf c = rotL c (fidx (Lib.minOf c) c) := by unfold ringOf; rw [rotL_ring c _ hp]
  have hrl := rotL_length c (fidx (Lib.minOf c) c)
  have ht : turnRow c = if (rotL c (fidx (Lib.minOf c) c)).getD 1 0 > (rotL c (fidx (Lib.minOf c) c)).getD (c.length - 1) 0 then revL c (fidx (Lib.minOf c) c) else rotL c (fidx (Lib.minOf c) c) := by
    unfold turnRow; rw [hring, revL_ring c _ hp, hrl]
  rw [ht]
  generalize fidx (Lib.minOf c) c = p at *
  have e0 : (rotL c p).getD 0 0 = Lib.minOf c := by rw [rotL_at c p 0 (by omega), Nat.add_zero, Nat.mod_eq_of_lt hp, hg]
  have e0' : (revL c p).getD 0 0 = Lib.minOf c := by rw [revL_at c p 0 (by omega), Nat.sub_zero, Nat.add_mod_right, Nat.mod_eq_of_lt hp, hg]
  have e1 : (revL c p).getD 1 0 = (rotL c p).getD (c.length - 1) 0 := by
    rw [revL_at c p 1 (by omega), rotL_at c p _ (by omega)]; congr 2; omega
  have e2 : (revL c p).getD (c.length - 1) 0 = (rotL c p).getD 1 0 := by
    rw [revL_at c p _ (by omega), rotL_at c p 1 (by omega)]; congr 2; omega
  have hne : (rotL c p).getD 1 0 ≠ (rotL c p).getD (c.length - 1) 0 := by
    intro e
    have hn : (rotL c p).Nodup := (round_perm ⟨p, hp, .inl rfl⟩).nodup_iff.2 hnd
    have := getD_inj hn (i := 1) (j := c.length - 1) (by omega) (by omega) e
    omega
  split
  · next h => exact ⟨⟨p, hp, .inr rfl⟩, e0', by rw [e1, e2]; exact h⟩
  · next h => exact ⟨⟨p, hp, .inl rfl⟩, e0, by omega⟩
theorem turn_round {c t : List Int} (h3 : 3 ≤ c.length) (hnd : c.Nodup) (h : Round c t) : turnRow t = turnRow c := by
  have hl := round_length h
  have hnt : t.Nodup := (round_perm h).nodup_iff.2 hnd
  have h1 := turn_like (c := t) (by omega) hnt
  have h2 : Like c (turnRow t) := ⟨round_trans h h1.1, by rw [h1.2.1, round_min h], by rw [← hl]; exact h1.2.2⟩
  rw [like_two h3 hnd h2, ← like_two h3 hnd (turn_like h3 hnd)]

end Go.Proofs.Ytngglgkemonibaa.P
