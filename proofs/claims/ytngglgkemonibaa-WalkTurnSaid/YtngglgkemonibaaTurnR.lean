/- The reference's Turn, as a plain law: the least of all rounds is walk.Turn's row. -/
import Derived.Test.YtngglgkemonibaaTurn
import Derived.Test.YtngglgkemonibaaRowsR
import Derived.Test.YtngglgkemonibaaF23
namespace Go.Proofs.Ytngglgkemonibaa.P
open Go.RowKit Go.Proofs.YtngglgkemonibaaW.PrintWords Go.Proofs.YtngglgkemonibaaW.PrintMore Go.Proofs.YtngglgkemonibaaW.PrintLast
set_option linter.unusedVariables false
set_option linter.unusedSimpArgs false

def rotL (c : List Int) (f : Nat) : List Int := (List.range c.length).map fun i => c.getD ((f + i) % c.length) 0
def revL (c : List Int) (f : Nat) : List Int := (List.range c.length).map fun i => c.getD ((f + c.length - i) % c.length) 0
def stepR (c best : List Int) (f : Nat) : List Int :=
  if lexLt (rotL c f) best then (if lexLt (revL c f) (rotL c f) then revL c f else rotL c f) else (if lexLt (revL c f) best then revL c f else best)
theorem tmod_nat (a b : Nat) : Int.tmod (a : Int) (b : Int) = ((a % b : Nat) : Int) := rfl
def contR (k : Nat) (x0 x3 : List Int) (x4 x5 : Int) (x6 x7 : List Int) : Option (List Int) :=
  (carcanetref03_Less.f k x6 x3).bind fun t => (if t = true then ((carcanetref03_Less.f k x7 x6).bind fun t' => (if t' = true then (carcanetref05_Turn.l0 k x0 x7 x4 (wrap64 (x5 + 1))) else (carcanetref05_Turn.l0 k x0 x6 x4 (wrap64 (x5 + 1))))) else ((carcanetref03_Less.f k x7 x3).bind fun t' => (if t' = true then (carcanetref05_Turn.l0 k x0 x7 x4 (wrap64 (x5 + 1))) else (carcanetref05_Turn.l0 k x0 x3 x4 (wrap64 (x5 + 1))))))
theorem turn_l1 (c best : List Int) (hc : c.length ≤ 1000) (f : Nat) (hf : f < c.length) : ∀ (d i k : Nat) (one two : List Int), d + i = c.length → one.length = i → two.length = i → d < k →
    carcanetref05_Turn.l1 k c best (c.length : Int) (f : Int) one two (i : Int) =
      contR (k - d - 1) c best (c.length : Int) (f : Int) (one ++ ((List.range c.length).drop i).map fun i => c.getD ((f + i) % c.length) 0) (two ++ ((List.range c.length).drop i).map fun i => c.getD ((f + c.length - i) % c.length) 0) := by
  intro d
  induction d with
  | zero =>
    intro i k one two h h1 h2 hk
    obtain ⟨k, rfl⟩ : ∃ m, k = m + 1 := ⟨k - 1, by omega⟩
    rw [carcanetref05_Turn.l1, if_neg (by omega), List.drop_of_length_le (by rw [List.length_range]; omega)]
    simp only [List.map_nil, List.append_nil]
    rfl
  | succ d ih =>
    intro i k one two h h1 h2 hk
    obtain ⟨k, rfl⟩ : ∃ m, k = m + 1 := ⟨k - 1, by omega⟩
    have e1 : wrap64 ((f : Int) + (i : Int)) = ((f + i : Nat) : Int) := by rw [wrap_id (by omega)]; omega
    have e2 : wrap64 (wrap64 ((f : Int) + (c.length : Int)) - (i : Int)) = ((f + c.length - i : Nat) : Int) := by
      rw [wrap_id (x := (f : Int) + (c.length : Int)) (by omega), wrap_id (by omega)]; omega
    have hm1 := Nat.mod_lt (f + i) (show 0 < c.length by omega)
    have hm2 := Nat.mod_lt (f + c.length - i) (show 0 < c.length by omega)
    have hd : (List.range c.length).drop i = i :: (List.range c.length).drop (i + 1) := by
      rw [List.drop_eq_getElem_cons (by rw [List.length_range]; omega), List.getElem_range]
    rw [carcanetref05_Turn.l1, if_pos (by omega), if_neg (by omega), e1, e2, tmod_nat, tmod_nat, if_pos (by omega), if_pos (by omega), if_pos (by omega), if_pos (by omega), if_pos (by omega), if_pos (by omega),
      rd_nat, rd_nat, wrap_succ i (by omega), ih (i + 1) k _ _ (by omega) (by simp [h1]) (by simp [h2]) (by omega), hd]
    rw [show k + 1 - (d + 1) - 1 = k - d - 1 by omega]
    simp only [List.map_cons, List.append_assoc, List.singleton_append]
theorem rotL_length (c : List Int) (f : Nat) : (rotL c f).length = c.length := by simp [rotL]
theorem revL_length (c : List Int) (f : Nat) : (revL c f).length = c.length := by simp [revL]
theorem turn_l0 (c : List Int) (hc : c.length ≤ 1000) : ∀ (d f k : Nat) (best : List Int), d + f = c.length → best.length = c.length → d * (c.length + 2) + 2 * c.length + 2 < k →
    carcanetref05_Turn.l0 k c best (c.length : Int) (f : Int) = some ((List.range' f d).foldl (stepR c) best) := by
  intro d
  induction d with
  | zero =>
    intro f k best h hb hk
    obtain ⟨k, rfl⟩ : ∃ m, k = m + 1 := ⟨k - 1, by omega⟩
    rw [carcanetref05_Turn.l0, if_neg (by omega)]; rfl
  | succ d ih =>
    intro f k best h hb hk
    rw [Nat.succ_mul] at hk
    obtain ⟨k, rfl⟩ : ∃ m, k = m + 1 := ⟨k - 1, by omega⟩
    rw [carcanetref05_Turn.l0, if_pos (by omega)]
    have h1 := turn_l1 c best hc f (by omega) c.length 0 k [] [] (by omega) rfl rfl (by omega)
    rw [show ((0 : Nat) : Int) = 0 from rfl] at h1
    rw [h1]
    simp only [List.nil_append, List.drop_zero]
    have hr : ((List.range c.length).map fun i => c.getD ((f + i) % c.length) 0) = rotL c f := rfl
    have hv : ((List.range c.length).map fun i => c.getD ((f + c.length - i) % c.length) 0) = revL c f := rfl
    rw [hr, hv]
    unfold contR
    rw [List.range'_succ, List.foldl_cons]
    have l1 := rotL_length c f
    have l2 := revL_length c f
    rw [less_f _ _ (by omega) _ (by omega), less_f _ _ (by omega) _ (by omega), less_f _ _ (by omega) _ (by omega)]
    simp only [Option.bind_some]
    rw [wrap_succ f (by omega)]
    have hnext : ∀ b : List Int, b.length = c.length → carcanetref05_Turn.l0 (k - c.length - 1) c b (c.length : Int) ((f + 1 : Nat) : Int) = some ((List.range' (f + 1) d).foldl (stepR c) b) :=
      fun b hb => ih (f + 1) _ b (by omega) hb (by omega)
    unfold stepR
    by_cases c1 : lexLt (rotL c f) best = true
    · rw [if_pos c1, if_pos c1]
      by_cases c2 : lexLt (revL c f) (rotL c f) = true
      · rw [if_pos c2, if_pos c2]; exact hnext _ l2
      · rw [if_neg c2, if_neg c2]; exact hnext _ l1
    · rw [if_neg c1, if_neg c1]
      by_cases c2 : lexLt (revL c f) best = true
      · rw [if_pos c2, if_pos c2]; exact hnext _ l2
      · rw [if_neg c2, if_neg c2]; exact hnext _ hb

/- the least row -/
theorem rotL_ring (c : List Int) (p : Nat) (hp : p < c.length) : rotL c p = c.drop p ++ c.take p := by
  apply List.ext_getElem?
  intro i
  by_cases hi : i < c.length
  · have h1 : (rotL c p)[i]? = some (c.getD ((p + i) % c.length) 0) := by
      unfold rotL; rw [List.getElem?_map, List.getElem?_range hi]; rfl
    rw [h1]
    by_cases h2 : i < c.length - p
    · rw [List.getElem?_append_left (by rw [List.length_drop]; exact h2), List.getElem?_drop, Nat.mod_eq_of_lt (by omega), List.getD_eq_getElem?_getD, List.getElem?_eq_getElem (by omega)]; rfl
    · rw [List.getElem?_append_right (by rw [List.length_drop]; omega), List.length_drop, List.getElem?_take_of_lt (by omega),
        show (p + i) % c.length = i - (c.length - p) by rw [Nat.mod_eq_sub_mod (by omega), Nat.mod_eq_of_lt (by omega)]; omega,
        List.getD_eq_getElem?_getD, List.getElem?_eq_getElem (by omega)]; rfl
  · rw [List.getElem?_eq_none (by rw [rotL_length]; omega), List.getElem?_eq_none (by simp; omega)]
theorem revL_ring (c : List Int) (p : Nat) (hp : p < c.length) : revL c p = (rotL c p).take 1 ++ ((rotL c p).drop 1).reverse := by
  have hl := rotL_length c p
  have hr : ∀ i, i < c.length → (rotL c p)[i]? = some (c.getD ((p + i) % c.length) 0) := fun i hi => by
    unfold rotL; rw [List.getElem?_map, List.getElem?_range hi]; rfl
  apply List.ext_getElem?
  intro i
  by_cases hi : i < c.length
  · have h1 : (revL c p)[i]? = some (c.getD ((p + c.length - i) % c.length) 0) := by
      unfold revL; rw [List.getElem?_map, List.getElem?_range hi]; rfl
    rw [h1]
    cases i with
    | zero =>
      rw [List.getElem?_append_left (by rw [List.length_take]; omega), List.getElem?_take_of_lt (by omega), hr 0 hi]
      rw [Nat.sub_zero, Nat.add_mod_right, Nat.add_zero]
    | succ i =>
      have hi' : i < ((rotL c p).drop 1).length := by rw [List.length_drop]; omega
      rw [List.getElem?_append_right (by rw [List.length_take]; omega), List.length_take, show i + 1 - min 1 (rotL c p).length = i by omega,
        List.getElem?_reverse hi', List.length_drop, List.getElem?_drop, show 1 + ((rotL c p).length - 1 - 1 - i) = c.length - (i + 1) by omega, hr _ (by omega)]
      rw [show p + c.length - (i + 1) = p + (c.length - (i + 1)) by omega]
  · rw [List.getElem?_eq_none (by rw [revL_length]; omega), List.getElem?_eq_none (by rw [List.length_append, List.length_take, List.length_reverse, List.length_drop]; omega)]
theorem rot_cons (c : List Int) (f : Nat) (hf : f < c.length) : ∃ t, rotL c f = c.getD f 0 :: t := by
  obtain ⟨n, hn⟩ : ∃ n, c.length = n + 1 := ⟨c.length - 1, by omega⟩
  refine ⟨(List.range n).map (fun i => c.getD ((f + (i + 1)) % c.length) 0), ?_⟩
  unfold rotL
  rw [hn, List.range_succ_eq_map, List.map_cons, List.map_map, Nat.add_zero, Nat.mod_eq_of_lt (by omega)]
  rfl
theorem rev_cons (c : List Int) (f : Nat) (hf : f < c.length) : ∃ t, revL c f = c.getD f 0 :: t := by
  obtain ⟨n, hn⟩ : ∃ n, c.length = n + 1 := ⟨c.length - 1, by omega⟩
  refine ⟨(List.range n).map (fun i => c.getD ((f + c.length - (i + 1)) % c.length) 0), ?_⟩
  unfold revL
  rw [hn, List.range_succ_eq_map, List.map_cons, List.map_map, Nat.sub_zero, Nat.add_mod_right, Nat.mod_eq_of_lt (by omega)]
  rfl
def leastR (c : List Int) (p : Nat) : List Int := if lexLt (revL c p) (rotL c p) then revL c p else rotL c p
theorem fold_least (c : List Int) (p : Nat) (hp : p < c.length) (hm : ∀ f, f < c.length → f ≠ p → c.getD p 0 < c.getD f 0) : ∀ (d f : Nat) (best : List Int), d + f = c.length →
    (f ≤ p → best = rotL c p ∨ ∃ h t, best = h :: t ∧ c.getD p 0 < h) → (p < f → best = leastR c p) → (List.range' f d).foldl (stepR c) best = leastR c p := by
  obtain ⟨tp, htp⟩ := rot_cons c p hp
  obtain ⟨tv, htv⟩ := rev_cons c p hp
  have hT : ∃ t, leastR c p = c.getD p 0 :: t := by
    unfold leastR
    split
    · exact ⟨_, htv⟩
    · exact ⟨_, htp⟩
  intro d
  induction d with
  | zero => intro f best h _ h2; exact h2 (by omega)
  | succ d ih =>
    intro f best h h1 h2
    rw [List.range'_succ, List.foldl_cons]
    by_cases hfp : f = p
    · subst hfp
      refine ih (f + 1) _ (by omega) (fun h => absurd h (by omega)) (fun _ => ?_)
      rcases h1 (Nat.le_refl _) with rfl | ⟨h, t, rfl, hlt⟩
      · unfold stepR leastR
        rw [lexLt_irrefl, if_neg (by decide)]
      · unfold stepR leastR
        rw [if_pos (by rw [htp]; exact lexLt_head hlt _ _)]
    · have hgt := hm f (by omega) hfp
      obtain ⟨t1, e1⟩ := rot_cons c f (by omega)
      obtain ⟨t2, e2⟩ := rev_cons c f (by omega)
      have keep : ∀ t, stepR c (c.getD p 0 :: t) f = c.getD p 0 :: t := fun t => by
        unfold stepR
        rw [e1, e2, lexLt_head' hgt, if_neg (by decide), lexLt_head' hgt, if_neg (by decide)]
      refine ih (f + 1) _ (by omega) (fun hle => ?_) (fun hlt => ?_)
      · rcases h1 (by omega) with rfl | ⟨h, t, rfl, hlt⟩
        · left; rw [htp]; exact keep tp
        · right
          unfold stepR
          split
          · split
            · exact ⟨_, _, e2, hgt⟩
            · exact ⟨_, _, e1, hgt⟩
          · split
            · exact ⟨_, _, e2, hgt⟩
            · exact ⟨_, _, rfl, hlt⟩
      · rw [h2 (by omega)]
        obtain ⟨t, ht⟩ := hT
        rw [ht]; exact keep t

theorem least_turn (c : List Int) (h3 : 3 ≤ c.length) (hnd : c.Nodup) : leastR c (fidx (Lib.minOf c) c) = turnRow c := by
  have hp := fidx_lt (minOf_mem (l := c) (by omega))
  generalize hpp : fidx (Lib.minOf c) c = p at hp
  have hring : ringOf c = rotL c p := by unfold ringOf; rw [hpp, rotL_ring c p hp]
  have hperm : (rotL c p).Nodup := by
    rw [rotL_ring c p hp]
    exact (List.perm_append_comm.nodup_iff).1 (by rw [List.take_append_drop]; exact hnd)
  unfold leastR turnRow
  rw [hring, revL_ring c p hp]
  have hl := rotL_length c p
  generalize rotL c p = r at hperm hl
  match r, hl with
  | [], hl => simp at hl; omega
  | [_], hl => simp at hl; omega
  | m :: x :: s, hl =>
    have hs : s ≠ [] := by rintro rfl; simp at hl; omega
    have hlast : (m :: x :: s).getD ((m :: x :: s).length - 1) 0 = s.getLast hs := by
      rw [List.getD_eq_getElem?_getD, ← List.getLast?_eq_getElem?, List.getLast?_cons, List.getLast?_cons, List.getLast?_eq_some_getLast hs]; rfl
    have hne : x ≠ s.getLast hs := by
      rintro e
      have hx : x ∉ s := by have := hperm; simp only [List.nodup_cons] at this; exact this.2.1
      exact hx (by rw [e]; exact List.getLast_mem hs)
    rw [hlast]
    simp only [List.take_succ_cons, List.take_zero, List.drop_succ_cons, List.drop_zero, List.getD_cons_succ, List.getD_cons_zero, List.reverse_cons, List.singleton_append]
    have hrev : ∃ u, s.reverse ++ [x] = s.getLast hs :: u := by
      refine ⟨(s.dropLast).reverse ++ [x], ?_⟩
      rw [← List.cons_append]
      congr 1
      have h := List.dropLast_concat_getLast hs
      have h' := congrArg List.reverse h
      rw [List.reverse_append] at h'
      rw [← h']; rfl
    obtain ⟨u, hu⟩ := hrev
    have hlx : lexLt (m :: (s.reverse ++ [x])) (m :: x :: s) = decide (s.getLast hs < x) := by
      rw [lexLt, if_pos rfl, hu, lexLt, if_neg (fun e => hne e.symm)]
    rw [hlx]
    by_cases hlt : s.getLast hs < x
    · rw [decide_eq_true hlt, if_pos rfl, if_pos hlt]
    · rw [decide_eq_false hlt, if_neg (by decide), if_neg hlt]

theorem refTurn_f (c : List Int) (hc : c.length ≤ 1000) (k : Nat) (hk : c.length * (c.length + 2) + 2 * c.length + 4 < k) :
    carcanetref05_Turn.f k c = some (if c.length < 3 ∨ ¬ c.Nodup then c else turnRow c) := by
  obtain ⟨k, rfl⟩ : ∃ m, k = m + 1 := ⟨k - 1, by omega⟩
  unfold carcanetref05_Turn.f
  simp only [Option.bind_some, List.length_nil, List.nil_append]
  rw [if_pos (by omega)]
  by_cases h3 : c.length < 3
  · rw [if_pos (by omega), if_pos (.inl h3), carcanetref05_Turn.j0, if_pos rfl]
  · rw [if_neg (by omega), unlike_f c (by omega) _ (by omega)]
    simp only [Option.bind_some]
    by_cases hnd : c.Nodup
    · rw [decide_eq_true hnd, carcanetref05_Turn.j0, if_neg (by decide), if_neg (fun h => h.elim h3 (fun h => h hnd))]
      have h1 := turn_l0 c hc c.length 0 k c (by omega) rfl (by omega)
      rw [show ((0 : Nat) : Int) = 0 from rfl] at h1
      rw [h1, ← least_turn c (by omega) hnd]
      congr 1
      have hmem := minOf_mem (l := c) (by omega)
      have hp := fidx_lt hmem
      have hg : c.getD (fidx (Lib.minOf c) c) 0 = Lib.minOf c := fidx_get hmem
      have hm : ∀ f, f < c.length → f ≠ fidx (Lib.minOf c) c → c.getD (fidx (Lib.minOf c) c) 0 < c.getD f 0 := by
        intro f hf hne
        have h1 : c.getD f 0 ∈ c := by rw [List.getD_eq_getElem?_getD, List.getElem?_eq_getElem hf]; exact List.getElem_mem _
        have h2 := minOf_le h1
        have h3 : c.getD f 0 ≠ c.getD (fidx (Lib.minOf c) c) 0 := by
          rw [List.getD_eq_getElem?_getD, List.getElem?_eq_getElem hf, List.getD_eq_getElem?_getD, List.getElem?_eq_getElem hp]
          exact fun e => hne ((List.getElem_inj hnd).1 e)
        rw [hg] at h3 ⊢
        omega
      refine fold_least c _ hp hm c.length 0 c (by omega) (fun _ => ?_) (fun h => absurd h (by omega))
      by_cases h0 : fidx (Lib.minOf c) c = 0
      · left
        rw [h0, rotL_ring c 0 (by omega)]; simp
      · right
        have := hm 0 (by omega) (fun e => h0 e.symm)
        cases c with
        | nil => simp at h3
        | cons x t => exact ⟨x, t, rfl, this⟩
    · rw [decide_eq_false hnd, carcanetref05_Turn.j0, if_pos (by decide), if_pos (.inr hnd)]

end Go.Proofs.Ytngglgkemonibaa.P
