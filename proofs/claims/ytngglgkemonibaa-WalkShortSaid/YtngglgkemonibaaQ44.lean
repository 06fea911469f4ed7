/- carcanetref03.Sorted: insertion, with copy. slices.Grow at nil, slices.Concat at rows of ints. walk.Turn: a ring from its least number on. -/
import Derived.StillTailTactics
import Derived.Laws.CopyOwn
import Derived.OwnWalk
import Derived.BigQuiet
import Derived.Deep.QuietTactic
import Derived.Outline
import Derived.IntWalk
import Derived.Test.YtngglgkemonibaaQ38
set_option linter.unusedVariables false
set_option linter.unusedSimpArgs false
set_option linter.unnecessarySimpa false
namespace Go.Proofs.Ytngglgkemonibaa.P
open Go.RowKit Go.Sort Go.Proofs.YtngglgkemonibaaW.PrintWords
set_option linter.unusedVariables false
set_option linter.unusedSimpArgs false

/-- x put in at place j -/
def putAt (xs : List Int) (j : Nat) (x : Int) : List Int := xs.take j ++ x :: xs.drop j
/-- from the end on, past all that are greater -/
def place (xs : List Int) (x : Int) : Nat → Nat
  | 0 => 0
  | j + 1 => if xs.getD j 0 > x then place xs x j else j + 1
def insR (xs : List Int) (x : Int) : List Int := putAt xs (place xs x xs.length) x
def sortR (l : List Int) : List Int := l.foldl insR []
theorem insR_length (xs : List Int) (x : Int) : (insR xs x).length = xs.length + 1 := by
  unfold insR putAt
  rw [List.length_append, List.length_cons, List.length_take, List.length_drop]; omega
theorem foldl_len (l : List Int) : ∀ acc : List Int, (l.foldl insR acc).length = acc.length + l.length := by
  induction l with
  | nil => intro acc; simp
  | cons x l ih => intro acc; rw [List.foldl_cons, ih, insR_length, List.length_cons]; omega
theorem sortR_length (l : List Int) : (sortR l).length = l.length := by rw [sortR, foldl_len]; simp
theorem sortR_snoc (l : List Int) (x : Int) : sortR (l ++ [x]) = insR (sortR l) x := by simp [sortR]
theorem place_le (xs : List Int) (x : Int) : ∀ j, place xs x j ≤ j
  | 0 => Nat.le_refl _
  | j + 1 => by
    unfold place
    split
    · exact Nat.le_succ_of_le (place_le xs x j)
    · exact Nat.le_refl _

theorem place_go {xs : List Int} {x : Int} {j : Nat} (h : 0 < j) (hx : x < xs.getD (j - 1) 0) : place xs x j = place xs x (j - 1) := by
  obtain ⟨m, rfl⟩ : ∃ m, j = m + 1 := ⟨j - 1, by omega⟩
  rw [Nat.add_sub_cancel] at hx ⊢
  rw [place, if_pos hx]
theorem place_stop {xs : List Int} {x : Int} {j : Nat} (h : j = 0 ∨ (0 < j ∧ ¬ x < xs.getD (j - 1) 0)) : place xs x j = j := by
  rcases h with rfl | ⟨h, hx⟩
  · rfl
  · obtain ⟨m, rfl⟩ : ∃ m, j = m + 1 := ⟨j - 1, by omega⟩
    rw [Nat.add_sub_cancel] at hx
    rw [place, if_neg hx]

def carcanetref03_Sorted.f (l0 : List Int) : Option (List Int) := if l0.length < 17592186044415 then some (sortR l0) else none

/-- a slice of the call's own that is not nil, with its block -/
structure Blk (W : World) (base : Nat) (g cap : Nat) (cur : Array Value) (xs : List Int) : Prop where
  bas : base ≤ g
  blk : W.heap[g]? = some (.cells cur 3 (0, 0))
  len : xs.length ≤ cap
  cle : cap ≤ 9223372036854775807
  siz : cur.size = cap
  cells : cur.toList.take xs.length = xs.map (Value.int .i64)
theorem Blk.own {W : World} {base g cap : Nat} {cur : Array Value} {xs : List Int} (h : Blk W base g cap cur xs) : W.ownsRow base 3 1 (.slice (some ⟨g, 0, none⟩) xs.length cap) xs.length (xs.map (Value.int .i64)) :=
  ⟨by simp, .inr ⟨g, cap, cur, rfl, h.bas, h.blk, h.len, h.cle, by rw [Nat.mul_one]; exact h.siz, by rw [Nat.mul_one]; exact h.cells⟩⟩
theorem Blk.cell {W : World} {base g cap : Nat} {cur : Array Value} {xs : List Int} (h : Blk W base g cap cur xs) (j : Nat) (hj : j < xs.length) : W.cell? ⟨g, j, none⟩ = some (.int .i64 (xs.getD j 0)) := by
  rw [blk_cell h.blk]
  have h1 : (cur.toList.take xs.length)[j]? = (xs.map (Value.int .i64))[j]? := by rw [h.cells]
  rw [List.getElem?_take_of_lt hj, List.getElem?_map, Array.getElem?_toList] at h1
  rw [h1, List.getD_eq_getElem?_getD, List.getElem?_eq_getElem hj]; rfl
theorem Blk.of_own {W : World} {base n : Nat} {v : Value} {xs : List Int} (h : W.ownsRow base 3 1 v n (xs.map (Value.int .i64))) (hn : n = xs.length) (h0 : 0 < n) : ∃ g cap cur, v = .slice (some ⟨g, 0, none⟩) xs.length cap ∧ Blk W base g cap cur xs := by
  subst hn
  rcases h.2 with ⟨_, hz⟩ | ⟨g, cap, cur, rfl, hb, hg, r1, r2, r3, r4⟩
  · omega
  · exact ⟨g, cap, cur, rfl, hb, hg, r1, r2, by rw [Nat.mul_one] at r3; exact r3, by rw [Nat.mul_one] at r4; exact r4⟩
theorem Blk.below {W W' : World} {base g cap : Nat} {cur : Array Value} {xs : List Int} (h : Blk W base g cap cur xs) (hb : Below W.heap.size W W') : Blk W' base g cap cur xs :=
  ⟨h.bas, (hb.block g (blk_lt h.blk)).trans h.blk, h.len, h.cle, h.siz, h.cells⟩

theorem final_cells (xs : List Int) (x : Int) (j k : Nat) (cur : List Value) (hk : xs.length = k) (hj : j ≤ k) (hc : k + 1 ≤ cur.length) (hcur : cur.take (k + 1) = (xs ++ [0]).map (Value.int .i64)) (hp : place xs x xs.length = j) :
    ((splice cur (j + 1) ((xs.drop j).map (Value.int .i64))).toArray.setIfInBounds j (Value.int .i64 x)).toList.take (k + 1) = (insR xs x).map (Value.int .i64) := by
  unfold insR putAt
  rw [hp]
  have e1 : cur.take j = (xs.take j).map (Value.int .i64) := by
    have : (cur.take (k + 1)).take j = ((xs ++ [0]).map (Value.int .i64)).take j := by rw [hcur]
    rw [List.take_take, Nat.min_eq_left (by omega), ← List.map_take, List.take_append_of_le_length (by omega)] at this
    exact this
  have e2 : cur.take (j + 1) = cur.take j ++ [cur[j]'(by omega)] := by rw [List.take_succ_eq_append_getElem]
  simp only [splice, List.setIfInBounds_toArray, List.toList_toArray]
  rw [e2, List.append_assoc, List.set_append_right _ _ (by rw [List.length_take]; omega), List.length_take, Nat.min_eq_left (by omega), Nat.sub_self]
  simp only [List.singleton_append, List.set_cons_zero]
  rw [e1]
  generalize List.drop _ cur = rest
  rw [show (xs.take j).map (Value.int .i64) ++ Value.int .i64 x :: ((xs.drop j).map (Value.int .i64) ++ rest) = ((xs.take j ++ x :: xs.drop j).map (Value.int .i64)) ++ rest from by simp]
  exact List.take_left' (by simp; omega)

set_option maxRecDepth 100000 in
set_option maxHeartbeats 4000000 in
theorem sorted_walk (A0 : Option Addr) (c0 : Nat) (l0 : List Int) (w : World) (hr0 : Kd.C (Kd.int .i64) w A0 l0.length l0) (hlim : l0.length < 17592186044415) :
    Calls Try.prog 55 #[.slice A0 l0.length c0] w fun e w' => ∃ v0_ : Value, e = .returned (v0_) ∧ w'.ownsRow w.heap.size 3 1 v0_ l0.length ((sortR l0).map (Value.int .i64)) ∧ Below w.heap.size w w' := by
  obtain ⟨i0, hi, hz0, hz1, hz2⟩ := info_parts info3
  have HR := Lib.hid hr0
  clear hr0
  go_enter Try.func55, Try.ntmps55
  go_wp2
  go_loopw [3, 4] (fun v i wr => ∃ (k g cap : Nat) (cur : Array Value), k ≤ l0.length ∧ i = .int .i64 k ∧ v = .slice (some ⟨g, 0, none⟩) k cap ∧ Blk wr w.heap.size g cap cur (sortR (l0.take k)) ∧ Below w.heap.size w wr)
    (fun _ i _ => l0.length - (intOf i).toNat)
  case atStart =>
    exact ⟨0, w.heap.size, 0, #[], Nat.zero_le _, rfl, rfl, ⟨Nat.le_refl _, World.alloc_heap_new w _, by simp [sortR_length], by omega, rfl, by simp [sortR]⟩, (Below.refl _ w).alloc (Nat.le_refl _) _⟩
  case round =>
    obtain ⟨k, g, cap, cur, hk, rfl, rfl, hown, hB⟩ := hrel
    have hlen : (sortR (l0.take k)).length = k := by rw [sortR_length, List.length_take]; omega
    by_cases hlt : k < l0.length
    · have hC : Kd.C (Kd.int .i64) wr A0 l0.length l0 := Kd.C_below HR.out hB
      obtain ⟨b, off, rfl, hc⟩ := C_plain hC (by omega)
      have hbw : b < w.heap.size := C_lt HR.out (by decide) _ rfl (by omega)
      have hx := hc k hlt
      have hxw : w.cell? ⟨b, off + k, none⟩ = some (.int .i64 (l0.getD k 0)) := ((hB.cell (p := ⟨b, off + k, none⟩) hbw).symm.trans hx)
      have HX : Hid (sortR (l0.take (k + 1)) = insR (sortR (l0.take k)) (l0.getD k 0)) := Lib.hid (by
        rw [List.take_succ_eq_append_getElem hlt, sortR_snoc, List.getD_eq_getElem?_getD, List.getElem?_eq_getElem hlt]; rfl)
      generalize sortR (l0.take k) = xs at hown hlen HX
      generalize l0.getD k 0 = x at hx hxw HX
      have HXW := Lib.hid hxw
      clear hxw
      have HL := Lib.hid hlen
      have HO := Lib.hid hown
      clear hc hlen hown hC
      go_wp2
      go_loopw [5] (fun v w2 => ∃ j : Nat, j ≤ k ∧ v = .int .i64 j ∧ place xs x xs.length = place xs x j ∧ ∃ q, w2 = wr.drewN q) (fun v _ => (intOf v).toNat)
      case atStart => exact ⟨k, Nat.le_refl _, rfl, by rw [HL.out], 0, rfl⟩
      case round =>
        obtain ⟨j, hj, rfl, hpl, q, rfl⟩ := hrel
        have HP := Lib.hid hpl
        clear hpl
        by_cases hgo : 0 < j ∧ x < xs.getD (j - 1) 0
        · obtain ⟨hj0, hxy⟩ := hgo
          have hcj : wr.cell? ⟨g, j - 1, none⟩ = some (.int .i64 (xs.getD (j - 1) 0)) := HO.out.cell (j - 1) (by have := HL.out; omega)
          have HP2 : Hid (place xs x j = place xs x (j - 1)) := Lib.hid (place_go hj0 hxy)
          generalize xs.getD (j - 1) 0 = y at hcj hxy
          have q1 : 0 ≤ (j : Int) - 1 := by omega
          have q2 : (j : Int) - 1 < (k : Int) := by omega
          have q3 : IntKind.i64.wrap ((j : Int) - 1) = (j : Int) - 1 := IntWalk.i64_in _ (by omega)
          have q4 : ((j : Int) - 1).toNat = j - 1 := by omega
          have q5 : (1 : Int) ≤ (j : Int) := by omega
          have q6 : (j : Int) ≤ (k : Int) := by omega
          have q7 : 1 ≤ j := by omega
          go_wp2
          go_quiet (fail)
          go_wp2
          go_roundw
          case rel => exact ⟨j - 1, by omega, by congr 1; omega, by rw [HP.out, HP2.out], _, rfl⟩
          case measure => simp [intOf]; omega
        · have hgo' : j = 0 ∨ (0 < j ∧ ¬ x < xs.getD (j - 1) 0) := by
            rcases Nat.eq_zero_or_pos j with h0 | h0
            · exact .inl h0
            · exact .inr ⟨h0, fun h => hgo ⟨h0, h⟩⟩
          have HJ : Hid (place xs x xs.length = j) := Lib.hid (HP.out.trans (place_stop hgo'))
          clear hgo
          rcases hgo' with h0 | ⟨hj0, hxy⟩
          focus
            have d1 : decide (0 < j) = false := decide_eq_false (by omega)
            have d2 : decide ((0 : Int) < (j : Int)) = false := decide_eq_false (by omega)
            have H0 := Lib.hid h0
            clear h0
            go_wp2
            go_quiet (fail)
          rotate_left
          focus
            have hcj : wr.cell? ⟨g, j - 1, none⟩ = some (.int .i64 (xs.getD (j - 1) 0)) := HO.out.cell (j - 1) (by have := HL.out; omega)
            generalize xs.getD (j - 1) 0 = y at hcj hxy
            have q1 : 0 ≤ (j : Int) - 1 := by omega
            have q2 : (j : Int) - 1 < (k : Int) := by omega
            have q3 : IntKind.i64.wrap ((j : Int) - 1) = (j : Int) - 1 := IntWalk.i64_in _ (by omega)
            have q4 : ((j : Int) - 1).toNat = j - 1 := by omega
            have q5 : (1 : Int) ≤ (j : Int) := by omega
            have q6 : (j : Int) ≤ (k : Int) := by omega
            have q7 : 1 ≤ j := by omega
            go_wp2
            go_quiet (fail)
            clear hcj q1 q2 q3 q4 q5 q6 q7
          all_goals
            have hO1 : Blk ((wr.drewN q).drewN nq) w.heap.size g cap cur xs := HO.out.below (pw_below_drewN (pw_below_drewN (Below.refl _ _) _) _)
            have hB1 : Below w.heap.size w ((wr.drewN q).drewN nq) := pw_below_drewN (pw_below_drewN hB _) _
            have hx1 : ((wr.drewN q).drewN nq).cell? ⟨b, off + k, none⟩ = some (.int .i64 x) := hx
            generalize (wr.drewN q).drewN nq = W1 at hO1 hB1 hx1 ⊢
            have hr5 := hO1.own.alloc (.cells #[.int .i64 0] 3)
            have hl := HL.out
            rw [hl] at hr5
            have hr6 := cell_one_new W1 (.int .i64 0) 3
            have hone : ∀ u ∈ [Value.int .i64 0], u.oneCell' = true := by intro u hu; rw [List.mem_singleton.1 hu]; rfl
            have hm1 : k + 1 ≤ maxLen := by unfold maxLen; omega
            have hm2 : (k + 1) * 8 ≤ 140737488355328 := by omega
            have hm3 : w.heap.size ≤ (W1.alloc (.cells #[.int .i64 0] 3)).heap.size := by rw [World.size_alloc]; have := hB1.size; omega
            have hO1' := Lib.hid hO1
            have hl' := Lib.hid hl
            clear hO1 hl hx
            go_wp2_with (at_builtin; go_loud (refine wpList_append_own _ rfl _ _ 25 rfl w.heap.size 3 i0 (.int .i64 0) 1 8 Try.underlying25 hi hz0 hz1 hz2 rfl (by decide) _ _ _ rfl hr5 ⟨W1.heap.size, 0, none⟩ 1 1 [.int .i64 0] rfl rfl hr6 hone hm1 hm2 hm3 ?_); go_loud (intro v' w3 hown' hgrow _))
            obtain ⟨g3, cap3, cur3, rfl, hO3⟩ := Blk.of_own (xs := xs ++ [0]) (by rw [List.map_append]; exact hown') (by simp [hl'.out]) (by omega)
            have hB3 : Below w.heap.size w w3 := (hB1.alloc hB1.size _).grown hgrow (by rw [World.size_alloc]; have := hB1.size; omega) (fun kk e => own_base hr5 kk e)
            have hlen3 : (xs ++ [0]).length = k + 1 := by simp [hl'.out]
            rw [hlen3]
            have hcap3 : k + 1 ≤ cap3 := hlen3 ▸ hO3.len
            clear hown' hgrow hr5 hr6 hone hm1 hm2 hm3 hx1 hB1
            have HO3 := Lib.hid hO3
            have HL3 := Lib.hid hlen3
            clear hO3 hlen3
            have e1 : IntKind.i64.wrap ((j : Int) + 1) = (j : Int) + 1 := IntWalk.i64_in _ (by omega)
            have hb3 : Hid (w3.drew.heap[g3]? = some (.cells cur3.toList.toArray 3 (0, 0))) := Lib.hid (by rw [Array.toArray_toList]; exact HO3.out.blk)
            have hBd : Below w.heap.size w w3.drew := below_drew hB3
            have hcsl : Hid (((xs.drop j).map (Value.int .i64)).length = k - j) := Lib.hid (by simp [hl'.out])
            have hsrc : ∀ jj v, ((xs.drop j).map (Value.int .i64))[jj]? = some v → w3.drew.cell? ((⟨g3, j, none⟩ : Addr).add jj) = some v := by
              intro jj v hv
              have hlt2 : jj < k - j := by have := (List.getElem?_eq_some_iff.1 hv).1; rw [hcsl.out] at this; exact this
              have h1 : w3.cell? ⟨g3, j + jj, none⟩ = some (.int .i64 ((xs ++ [0]).getD (j + jj) 0)) := HO3.out.cell (j + jj) (by rw [HL3.out]; omega)
              rw [add_at]
              show w3.cell? ⟨g3, j + jj, none⟩ = some v
              rw [h1, ← hv, List.getElem?_map, List.getElem?_drop, List.getD_eq_getElem?_getD, List.getElem?_append_left (by rw [hl'.out]; omega), List.getElem?_eq_getElem (by rw [hl'.out]; omega)]
              rfl
            have hfit : j + 1 + ((xs.drop j).map (Value.int .i64)).length ≤ cur3.toList.length := by
              rw [hcsl.out, Array.length_toList, HO3.out.siz]; omega
            have hone2 : ∀ v ∈ (xs.drop j).map (Value.int .i64), v.oneCell' = true := by
              intro v hv
              obtain ⟨z, _, rfl⟩ := List.mem_map.1 hv
              rfl
            have hgb : w.heap.size ≤ g3 := HO3.out.bas
            have HS := Lib.hid hsrc
            clear hsrc
            have hmin : Hid (((xs.drop j).map (Value.int .i64)).length = Nat.min (k + 1 - j) (k - j)) := Lib.hid (by rw [hcsl.out]; simp only [Nat.min_def]; split <;> omega)
            have hmin2 : Hid (((xs.drop j).map (Value.int .i64)).length = Nat.min (k + 1 - j) (k + 1 - (j + 1))) := Lib.hid (by rw [hcsl.out]; simp only [Nat.min_def]; split <;> omega)
            have b3 : (j : Int) ≤ (k : Int) + 1 := by omega
            have b5 : j ≤ k + 1 := by omega
            have b1 : (0 : Int) ≤ (j : Int) + 1 := by omega
            have b2 : (j : Int) + 1 ≤ (k : Int) + 1 := by omega
            have b4 : ((j : Int) + 1).toNat = j + 1 := by omega
            have b7 : ¬ cap3 = j := by omega
            have hinfo : (Try.prog.info? 3).map (·.size) = some 1 := by rw [hi]; exact congrArg some hz1
            rcases Nat.lt_or_ge j k with hjk | hjk
            focus
              have b6 : ¬ cap3 = j + 1 := by omega
              go_still_tail 7, (by kernel_rfl)
              refine wpList_copy_splice rfl _ _ 25 25 rfl 3 Try.underlying25 hinfo _ _ _ _ _ _ rfl rfl g3 (j + 1) cur3.toList 3 hb3.out ((xs.drop j).map (Value.int .i64)) hmin.out (fun _ => ⟨rfl, _, rfl, HS.out⟩) hfit hone2 w.heap.size w hBd hgb ?_
              clear b6
            rotate_left
            focus
              by_cases b6 : cap3 = j + 1
              focus
                go_still_tail 7, (by kernel_rfl)
                refine wpList_copy_splice rfl _ _ 25 25 rfl 3 Try.underlying25 hinfo _ _ _ _ _ _ rfl rfl g3 (j + 1) cur3.toList 3 hb3.out ((xs.drop j).map (Value.int .i64)) (by first | exact hmin.out | exact hmin2.out | (rw [hcsl.out]; simp only [Nat.min_def]; split <;> omega)) (fun h => absurd h (by have := hcsl.out; omega)) hfit hone2 w.heap.size w hBd hgb ?_
                have B6 := Lib.hid b6
                clear b6
              rotate_left
              focus
                go_still_tail 7, (by kernel_rfl)
                refine wpList_copy_splice rfl _ _ 25 25 rfl 3 Try.underlying25 hinfo _ _ _ _ _ _ rfl rfl g3 (j + 1) cur3.toList 3 hb3.out ((xs.drop j).map (Value.int .i64)) (by first | exact hmin.out | exact hmin2.out | (rw [hcsl.out]; simp only [Nat.min_def]; split <;> omega)) (fun h => absurd h (by have := hcsl.out; omega)) hfit hone2 w.heap.size w hBd hgb ?_
                clear b6
            all_goals
              intro w4 hw4 hB4
              have hx4 : w4.cell? ⟨b, off + k, none⟩ = some (.int .i64 x) := (hB4.cell (p := ⟨b, off + k, none⟩) hbw).trans HXW.out
              obtain ⟨z4, hz4⟩ : ∃ z, w4.cell? ⟨g3, j, none⟩ = some z := by
                rw [blk_cell hw4.out]
                have hl5 : j < (splice cur3.toList (j + 1) ((xs.drop j).map (Value.int .i64))).length := by
                  rw [length_splice _ _ _ hfit, Array.length_toList, HO3.out.siz]; omega
                rw [List.getElem?_toArray]
                exact ⟨_, List.getElem?_eq_getElem hl5⟩
              have hf4 := blk_frozen hw4.out j
              have c1 : j < k + 1 := by omega
              have c2 : (j : Int) < (k : Int) + 1 := by omega
              clear HS
              go_wp2
              go_roundw
              case rel =>
                refine ⟨k + 1, g3, cap3, (splice cur3.toList (j + 1) ((xs.drop j).map (Value.int .i64))).toArray.setIfInBounds j (.int .i64 x), by omega, by go_num, (by first | rfl | rw [B6.out]), ?_, hB4.setCell (p := ⟨g3, j, none⟩) hgb _⟩
                rw [HX.out]
                have hL5 : (insR xs x).length = k + 1 := by rw [insR_length, hl'.out]
                exact ⟨hgb, blk_set hw4.out j _, by rw [hL5]; exact hcap3, HO3.out.cle, by rw [Array.size_setIfInBounds, List.size_toArray, length_splice _ _ _ hfit, Array.length_toList, HO3.out.siz], by
                  rw [hL5]
                  exact final_cells xs x j k cur3.toList hl'.out hj (by rw [Array.length_toList, HO3.out.siz]; omega) (by have := HO3.out.cells; rw [HL3.out] at this; exact this) HJ.out⟩
              case measure => simp [intOf]; omega
    · obtain rfl : k = l0.length := by omega
      go_wp2
      go_ret
      have hl := hown.own
      rw [hlen] at hl
      rw [List.take_length] at hl
      exact ⟨_, rfl, hl, hB⟩

theorem carcanetref03_Sorted.calls (A0 : Option Addr) (c0 : Nat) (l0 : List Int) (r : List Int) (w : World) (hr0 : Kd.C (Kd.int .i64) w A0 l0.length l0) (hc0 : l0.length ≤ c0) (h : carcanetref03_Sorted.f l0 = some r) :
    Calls Try.prog 55 #[.slice A0 l0.length c0] w fun e w' => ∃ v0_ : Value, e = .returned (v0_) ∧ Kd.R (Kd.int .i64) 3 w' w.heap.size (fun _ => True) v0_ r ∧ Below w.heap.size w w' := by
  unfold carcanetref03_Sorted.f at h
  split at h
  · next hl =>
    obtain rfl := Option.some.inj h
    refine (sorted_walk A0 c0 l0 w hr0 hl).mono ?_
    rintro e w' ⟨v, rfl, ho, hb⟩
    rw [← sortR_length l0] at ho
    exact ⟨v, rfl, Kd.R_of_own ho (fun _ _ => trivial), hb⟩
  · cases h

end Go.Proofs.Ytngglgkemonibaa.P
namespace Go.Proofs.Ytngglgkemonibaa.P
open Go.RowKit Go.Sort Go.Proofs.YtngglgkemonibaaW.PrintWords
set_option linter.unusedVariables false
set_option linter.unusedSimpArgs false

theorem own_zero {w : World} {base n g cap : Nat} {xs : List Value} (h : w.ownsRow base 3 1 (.slice (some ⟨g, 0, none⟩) n cap) n xs) : w.ownsRow base 3 1 (.slice (some ⟨g, 0, none⟩) 0 cap) 0 [] := by
  rcases h.2 with ⟨h1, _⟩ | ⟨g', cap', cur, he, h1, h2, h3, h4, h5, _⟩
  · cases h1
  · injection he with ha _ hc
    injection ha with ha
    injection ha with ha
    subst ha; subst hc
    exact ⟨rfl, .inr ⟨g, cap, cur, rfl, h1, h2, by omega, h4, h5, by simp⟩⟩

theorem blk_zeros {w : World} {base n : Nat} {ok : Nat → Prop} {v : Value} (h : Kd.R (Kd.int .i64) 3 w base ok v ([] ++ List.replicate (n : Int).toNat (0 : Int))) (hn : 0 < n) :
    ∃ g cap cur, v = .slice (some ⟨g, 0, none⟩) n cap ∧ Blk w base g cap cur (List.replicate n 0) := by
  rw [List.nil_append, Int.toNat_natCast] at h
  have h1 := Kd.own_of_R h
  obtain ⟨g, cap, cur, rfl, hO⟩ := Blk.of_own (xs := List.replicate n 0) (by simpa [encs] using h1) (by simp) (by simpa using hn)
  exact ⟨g, cap, cur, by simp, hO⟩

set_option maxHeartbeats 2000000 in
theorem grow_nil (n : Nat) (hn : n < 17592186044416) (w : World) :
    Calls Try.prog 56 #[.slice none 0 0, .int .i64 n] w fun e w' => ∃ v : Value, e = .returned v ∧ w'.ownsRow w.heap.size 3 1 v 0 [] ∧ Below w.heap.size w w' := by
  have h0 : decide ((n : Int) < 0) = false := decide_eq_false (by omega)
  have h00 : ¬ (n : Int) < 0 := by omega
  by_cases hz : n = 0
  · subst hz
    go_enter Try.func56, Try.ntmps56
    go_wp2
    go_ret
    exact ⟨_, rfl, own_nil _ _ _ _, Below.refl _ _⟩
  · have hp : 0 < n := by omega
    clear hz
    have hp2 : (0 : Int) < (n : Int) := by omega
    have a1 : (Kd.int .i64).M w w.heap.size (fun _ => False) (0 : Int) (Value.int .i64 0).cells.toList := rfl
    have a2 : ∀ k, w.heap.size ≤ k → True := fun _ _ => trivial
    have a3 := Kd.R_nil (Kd.int .i64) 3 w w.heap.size (fun _ => True)
    have a4 : (0 : Int) ≤ (n : Int) := by omega
    have a5 : (([] : List Int).length + (n : Int).toNat) * 8 ≤ 140737488355328 := by simp; omega
    have a6 : 0 < (Kd.int .i64).sz := by decide
    have a7 : 0 < 8 := by omega
    go_enter Try.func56, Try.ntmps56
    go_wp2_with (at_builtin; go_loud (refine Kd.R_append_zeros (Kd.int .i64) (w0 := w) w.heap.size rfl _ _ 25 3 3 (.int .i64 0) 8 rfl Try.underlying25 Try.underlying3 info3 rfl a6 a7 (.slice none 0 0) [] (0 : Int) (n : Int) (fun _ => True) rfl rfl a1 a2 a3 a4 (Below.refl _ _) (Nat.le_refl _) a5 ?_); go_loud (intro v1 w1 h1 h2 h3 h4); go_loud (obtain ⟨g, cap, cur, rfl, hO⟩ := blk_zeros h1 hp); go_loud (have HO := Lib.hid hO))
    go_ret
    have h6 := own_zero hO.own
    exact ⟨_, rfl, h6, h2⟩

/-- the rows one behind the other -/
def slices_Concat_int_int.f (l0 : List (List Int)) : Option (List Int) := if l0.flatten.length < 17592186044416 then some l0.flatten else none

theorem flat_take (ls : List (List Int)) (k : Nat) (h : k < ls.length) : (ls.take (k + 1)).flatten = (ls.take k).flatten ++ ls.getD k [] := by
  rw [List.take_succ_eq_append_getElem h, List.flatten_append, List.getD_eq_getElem?_getD, List.getElem?_eq_getElem h]; simp
theorem flat_le (ls : List (List Int)) (k : Nat) : (ls.take k).flatten.length ≤ ls.flatten.length := by
  conv => rhs; rw [← List.take_append_drop k ls, List.flatten_append, List.length_append]
  omega

set_option maxRecDepth 100000 in
set_option maxHeartbeats 4000000 in
theorem slices_Concat_int_int.calls (A0 : Option Addr) (c0 : Nat) (l0 : List (List Int)) (r : List Int) (w : World) (hr0 : Kd.C (Kd.slice 3 (Kd.int .i64)) w A0 l0.length l0) (hc0 : l0.length ≤ c0) (h : slices_Concat_int_int.f l0 = some r) :
    Calls Try.prog 42 #[.slice A0 l0.length c0] w fun e w' => ∃ v0_ : Value, e = .returned (v0_) ∧ Kd.R (Kd.int .i64) 3 w' w.heap.size (fun _ => True) v0_ r ∧ Below w.heap.size w w' := by
  unfold slices_Concat_int_int.f at h
  split at h
  · next hlim =>
    obtain rfl := Option.some.inj h
    have hmax := hr0.2.1
    have HR := Lib.hid hr0
    have HL := Lib.hid hlim
    clear hr0 h hlim
    go_enter Try.func42, Try.ntmps42
    go_wp2
    go_loop [3, 11] (fun s i => ∃ k : Nat, k ≤ l0.length ∧ i = .int .i64 k ∧ s = .int .i64 ((l0.take k).flatten.length : Nat)) (fun _ i => l0.length - (intOf i).toNat)
    case atStart => exact ⟨0, Nat.zero_le _, rfl, rfl⟩
    case round =>
      obtain ⟨k, hk, rfl, rfl⟩ := hrel
      by_cases hlt : k < l0.length
      · obtain ⟨ad, A1, c1, rfl, hcell, hle, hC⟩ := at_L5 HR.out (k : Int) (by omega) (by omega)
        rw [Int.toNat_natCast] at hcell
        have HF : Hid ((l0.take (k + 1)).flatten.length = (l0.take k).flatten.length + (rd_L5 l0 (k : Int)).length) := Lib.hid (by
          rw [flat_take l0 k hlt, List.length_append]; simp [rd_L5])
        have hb1 : (l0.take k).flatten.length + (rd_L5 l0 (k : Int)).length < 17592186044416 := by
          have := flat_le l0 (k + 1); rw [HF.out] at this; have := HL.out; omega
        generalize rd_L5 l0 (k : Int) = row at hcell hle hC HF hb1
        generalize (l0.take k).flatten.length = n at HF hb1
        have hd0 : decide ((n : Int) + (row.length : Int) < 0) = false := decide_eq_false (by omega)
        have hd1 : ¬ ((n : Int) + (row.length : Int) < 0) := by omega
        clear hC hle
        go_wp2
        go_round
        case rel => exact ⟨k + 1, by omega, by go_num, by rw [HF.out]; go_num⟩
        case measure => simp [intOf]; omega
      · obtain rfl : k = l0.length := by omega
        have HT : Hid ((l0.take l0.length).flatten.length = l0.flatten.length) := Lib.hid (by rw [List.take_length])
        have hn : (l0.take l0.length).flatten.length < 17592186044416 := by rw [HT.out]; exact HL.out
        generalize (l0.take l0.length).flatten.length = n at hn
        clear HT hlt
        go_wp2_with (go_at_call 56; refine (grow_nil n hn w).mono ?_; rintro e w1 ⟨v, rfl, hv, hb⟩)
        go_loopw [6, 27] (fun v i wr => ∃ k : Nat, k ≤ l0.length ∧ i = .int .i64 k ∧ Kd.R (Kd.int .i64) 3 wr w.heap.size (fun _ => True) v (l0.take k).flatten ∧ Below w.heap.size w wr) (fun _ i _ => l0.length - (intOf i).toNat)
        case atStart => exact ⟨0, Nat.zero_le _, rfl, Kd.R_of_own (xs := []) hv (fun _ _ => trivial), hb⟩
        case round =>
          obtain ⟨k, hk, rfl, hv, hb⟩ := hrel
          by_cases hlt : k < l0.length
          · obtain ⟨ad, A1, c1, rfl, hcell, hle, hC⟩ := at_L5 (Kd.C_below HR.out hb) (k : Int) (by omega) (by omega)
            rw [Int.toNat_natCast] at hcell
            have HF : Hid ((l0.take (k + 1)).flatten = (l0.take k).flatten ++ rd_L5 l0 (k : Int)) := Lib.hid (by
              rw [flat_take l0 k hlt]; simp [rd_L5])
            have hb1 : ((l0.take k).flatten.length + (rd_L5 l0 (k : Int)).length) * 8 ≤ 140737488355328 := by
              have := flat_le l0 (k + 1); rw [HF.out, List.length_append] at this; have := HL.out; omega
            generalize rd_L5 l0 (k : Int) = row at hcell hle hC HF hb1
            generalize (l0.take k).flatten = acc at hv HF hb1
            have a2 : ∀ k, wr.heap.size ≤ k → True := fun _ _ => trivial
            have a6 : 0 < 8 := by omega
            go_wp2_with (at_builtin; go_loud (refine Kd.R_append_row (Value.int .i64) (0 : Int) (h1 := fun _ => rfl) (w0 := w) w.heap.size rfl _ _ 25 3 (.int .i64 0) 8 rfl Try.underlying25 info3 rfl a6 _ acc row A1 row.length c1 (fun _ => True) rfl rfl a2 hv hC hb hb.size hb1 ?_); go_loud (intro v1 w2 hv1 hb2 hg2 hat2))
            go_roundw
            case rel => exact ⟨k + 1, by omega, by go_num, by rw [HF.out]; exact hv1, hb2⟩
            case measure => simp [intOf]; omega
          · obtain rfl : k = l0.length := by omega
            go_wp2
            go_ret
            rw [List.take_length] at hv
            exact ⟨_, rfl, hv, hb⟩
  · cases h

end Go.Proofs.Ytngglgkemonibaa.P
namespace Go.Proofs.Ytngglgkemonibaa.P
open Go.RowKit Go.Sort Go.Proofs.YtngglgkemonibaaW.PrintWords
set_option linter.unusedVariables false
set_option linter.unusedSimpArgs false

/-- where x stands first -/
def fidx (x : Int) : List Int → Nat
  | [] => 0
  | z :: zs => if z = x then 0 else fidx x zs + 1
theorem fidx_lt {x : Int} : ∀ {zs : List Int}, x ∈ zs → fidx x zs < zs.length
  | z :: zs, h => by
    unfold fidx
    split
    · simp
    · next hne =>
      have := fidx_lt (zs := zs) ((List.mem_cons.1 h).resolve_left (fun e => hne e.symm))
      simp only [List.length_cons]; omega
theorem fidx_get {x : Int} : ∀ {zs : List Int}, x ∈ zs → zs.getD (fidx x zs) 0 = x
  | z :: zs, h => by
    unfold fidx
    split
    · next he => simpa using he
    · next hne =>
      have := fidx_get (zs := zs) ((List.mem_cons.1 h).resolve_left (fun e => hne e.symm))
      simpa using this
theorem idxFrom_fidx {x : Int} : ∀ {zs : List Int} (i : Nat), x ∈ zs → Lib.idxFrom zs x i = ((i + fidx x zs : Nat) : Int)
  | z :: zs, i, h => by
    unfold Lib.idxFrom fidx
    split
    · simp
    · next hne =>
      rw [idxFrom_fidx (i + 1) ((List.mem_cons.1 h).resolve_left (fun e => hne e.symm))]
      congr 1; omega
theorem foldl_min_mem : ∀ (l : List Int) (a : Int), l.foldl min a = a ∨ l.foldl min a ∈ l
  | [], a => .inl rfl
  | x :: l, a => by
    rw [List.foldl_cons]
    rcases foldl_min_mem l (min a x) with h | h
    · rw [h]
      rcases Int.le_total a x with hx | hx
      · left; omega
      · right; simp; omega
    · exact .inr (List.mem_cons_of_mem _ h)
theorem foldl_min_le : ∀ (l : List Int) (a : Int), l.foldl min a ≤ a ∧ ∀ y ∈ l, l.foldl min a ≤ y
  | [], a => ⟨Int.le_refl _, by simp⟩
  | x :: l, a => by
    rw [List.foldl_cons]
    have h := foldl_min_le l (min a x)
    refine ⟨by omega, fun y hy => ?_⟩
    rcases List.mem_cons.1 hy with rfl | hy
    · have := h.1; omega
    · exact h.2 y hy
theorem minOf_mem {l : List Int} (h : 0 < l.length) : Lib.minOf l ∈ l := by
  cases l with
  | nil => simp at h
  | cons x l =>
    rcases foldl_min_mem (x :: l) x with h1 | h1
    · unfold Lib.minOf; rw [List.headD_cons, h1]; exact List.mem_cons_self
    · exact h1
theorem minOf_le {l : List Int} {y : Int} (h : y ∈ l) : Lib.minOf l ≤ y := (foldl_min_le l _).2 y h

/-- the ring from its least number on -/
def ringOf (c : List Int) : List Int := c.drop (fidx (Lib.minOf c) c) ++ c.take (fidx (Lib.minOf c) c)
def turnRow (c : List Int) : List Int :=
  if (ringOf c).getD 1 0 > (ringOf c).getD ((ringOf c).length - 1) 0 then (ringOf c).take 1 ++ ((ringOf c).drop 1).reverse else ringOf c
theorem ringOf_length (c : List Int) : (ringOf c).length = c.length := by unfold ringOf; rw [List.length_append, List.length_drop, List.length_take]; omega
def walk_Turn.f (l0 : List Int) : Option (List Int) := if l0.length < 17592186044416 then some (if l0.length < 3 ∨ ¬ l0.Nodup then l0 else turnRow l0) else none

theorem nat_bool {a b : Nat} : decide ((a : Int) < (b : Int)) = decide (a < b) := by simp

set_option maxRecDepth 100000 in
set_option maxHeartbeats 4000000 in
theorem turn_plain (A0 : Option Addr) (c0 : Nat) (l0 : List Int) (w : World) (hr0 : Kd.C (Kd.int .i64) w A0 l0.length l0) (hc0 : l0.length ≤ c0) (hlim : l0.length < 17592186044416) (h : l0.length < 3 ∨ ¬ l0.Nodup) :
    Calls Try.prog 22 #[.slice A0 l0.length c0] w fun e w' => ∃ v0_ : Value, e = .returned (v0_) ∧ Kd.R (Kd.int .i64) 3 w' w.heap.size (fun _ => True) v0_ l0 ∧ Below w.heap.size w w' := by
  have HC : Hid (slices_Clone_int_int.f l0 = some l0) := Lib.hid (by unfold slices_Clone_int_int.f; rw [if_pos hlim])
  have HR := Lib.hid hr0
  have hmax := hr0.2.1
  clear hr0
  by_cases h3 : l0.length < 3
  · have t1 : decide ((l0.length : Int) < 3) = true := decide_eq_true (by omega)
    have t2 : decide (l0.length < 3) = true := decide_eq_true h3
    have t3 : (l0.length : Int) < 3 := by omega
    go_enter Try.func22, Try.ntmps22
    go_wp2_with (go_at_call 40; refine (slices_Clone_int_int.calls _ _ l0 l0 _ HR.out hc0 HC.out).mono ?_; rintro e w' ⟨v, rfl, hv, hb⟩)
    go_ret
    exact ⟨_, rfl, hv, hb⟩
  · have hnd : ¬ l0.Nodup := h.resolve_left h3
    have HU : Hid (walk_unlike.f l0 = some false) := Lib.hid (by unfold walk_unlike.f; rw [if_pos hlim, decide_eq_false hnd])
    have t1 : decide ((l0.length : Int) < 3) = false := decide_eq_false (by omega)
    have t2 : decide (l0.length < 3) = false := decide_eq_false h3
    have t3 : ¬ (l0.length : Int) < 3 := by omega
    clear hnd h
    go_enter Try.func22, Try.ntmps22
    go_wp2_with (first
      | (go_at_call 33; refine (walk_unlike.calls _ _ l0 false _ HR.out hc0 HU.out).mono ?_; rintro e w1 ⟨rfl, hb1⟩)
      | (go_at_call 40; refine (slices_Clone_int_int.calls _ _ l0 l0 w1 (Kd.C_below HR.out hb1) hc0 HC.out).mono ?_; rintro e w' ⟨v, rfl, hv, hb⟩))
    go_ret
    exact ⟨_, rfl, Kd.R_lower hv hb1.size, hb1.trans (hb.mono hb1.size)⟩

/-- two rows in a literal, read -/
theorem C_two {w : World} {g : Nat} {A1 A2 : Option Addr} {c1 c2 : Nat} {l1 l2 : List Int} (hb : w.heap[g]? = some (.cells #[.slice A1 l1.length c1, .slice A2 l2.length c2] 25 (0, 0)))
    (h1 : Kd.C (Kd.int .i64) w A1 l1.length l1) (h2 : Kd.C (Kd.int .i64) w A2 l2.length l2) (k1 : l1.length ≤ c1) (k2 : l2.length ≤ c2) :
    Kd.C (Kd.slice 3 (Kd.int .i64)) w (some ⟨g, 0, none⟩) ([l1, l2] : List (List Int)).length [l1, l2] := by
  refine ⟨rfl, by simp, fun _ => ⟨_, rfl, fun j p hj => ?_⟩⟩
  match j, hj with
  | 0, hj =>
    obtain rfl : l1 = p := by simpa using hj
    refine ⟨[.slice A1 l1.length c1], rfl, ⟨A1, c1, rfl, k1, h1⟩, fun i u hu => ?_⟩
    obtain rfl : i = 0 := by have := (List.getElem?_eq_some_iff.1 hu).1; simp at this; omega
    rw [add_at, ← hu]; exact blk_cell hb 0
  | 1, hj =>
    obtain rfl : l2 = p := by simpa using hj
    refine ⟨[.slice A2 l2.length c2], rfl, ⟨A2, c2, rfl, k2, h2⟩, fun i u hu => ?_⟩
    obtain rfl : i = 0 := by have := (List.getElem?_eq_some_iff.1 hu).1; simp at this; omega
    rw [add_at, ← hu]; exact blk_cell hb 1

theorem bel_setCells {B b : Nat} {a : World} (hb : B ≤ b) : ∀ (vs : List Value) (o : Nat) (w : World), Below B a w → Below B a (w.setCells b o vs)
  | [], _, _, h => h
  | v :: r, o, w, h => bel_setCells hb r (o + 1) _ (h.setCell (by exact hb) v)
theorem Blk.rev {W : World} {base g cap : Nat} {cur : Array Value} {xs : List Int} (h : Blk W base g cap cur xs) (h1 : 1 ≤ xs.length) (q : Nat) :
    Kd.R (Kd.int .i64) 3 ((W.drewN q).setCells g 1 (((xs.drop 1).take (xs.length - 1)).reverse.map (Value.int .i64))) base (fun _ => True) (.slice (some ⟨g, 0, none⟩) xs.length cap) (xs.take 1 ++ (xs.drop 1).reverse) := by
  have e1 : (xs.drop 1).take (xs.length - 1) = xs.drop 1 := List.take_of_length_le (by rw [List.length_drop]; exact Nat.le_refl _)
  rw [e1]
  have hlen : (xs.take 1 ++ (xs.drop 1).reverse).length = xs.length := by rw [List.length_append, List.length_take, List.length_reverse, List.length_drop]; omega
  have hl2 : ((xs.drop 1).reverse.map (Value.int .i64)).length = xs.length - 1 := by rw [List.length_map, List.length_reverse, List.length_drop]
  have hb : (W.drewN q).heap[g]? = some (.cells cur 3 (0, 0)) := h.blk
  have hsz := h.siz
  have hle := h.len
  obtain ⟨cur', k1, k2, k3⟩ := setCells_row ((xs.drop 1).reverse.map (Value.int .i64)) 1 (W.drewN q) cur hb (by rw [hl2]; omega)
  have hB : Blk ((W.drewN q).setCells g 1 ((xs.drop 1).reverse.map (Value.int .i64))) base g cap cur' (xs.take 1 ++ (xs.drop 1).reverse) := by
    refine ⟨h.bas, k1, by rw [hlen]; exact hle, h.cle, by rw [k2]; exact hsz, ?_⟩
    rw [k3, hlen, hl2]
    have hc1 : cur.toList.take 1 = (xs.take 1).map (Value.int .i64) := by
      have := congrArg (List.take 1) h.cells
      rw [List.take_take, Nat.min_eq_left h1, ← List.map_take] at this
      exact this
    have hA : (cur.toList.take 1 ++ (xs.drop 1).reverse.map (Value.int .i64)).length = xs.length := by
      rw [hc1, ← List.map_append, List.length_map, hlen]
    rw [← hA, List.take_left', hc1, ← List.map_append]
    rfl
  have := hB.own
  rw [hlen] at this
  exact Kd.R_of_own (by rw [hlen]; exact this) (fun _ _ => trivial)

set_option maxRecDepth 100000 in
set_option maxHeartbeats 8000000 in
theorem turn_ring (b off : Nat) (c0 : Nat) (l0 : List Int) (w : World) (hr0 : Kd.C (Kd.int .i64) w (some ⟨b, off, none⟩) l0.length l0) (hc0 : l0.length ≤ c0) (hlim : l0.length < 17592186044416) (h3 : 3 ≤ l0.length) (hnd : l0.Nodup) :
    Calls Try.prog 22 #[.slice (some ⟨b, off, none⟩) l0.length c0] w fun e w' => ∃ v0_ : Value, e = .returned (v0_) ∧ Kd.R (Kd.int .i64) 3 w' w.heap.size (fun _ => True) v0_ (turnRow l0) ∧ Below w.heap.size w w' := by
  have HR := Lib.hid hr0
  have hmax := hr0.2.1
  have hcw : Hid (∀ j, j < l0.length → w.cell? ⟨b, off + j, none⟩ = some (.int .i64 (l0.getD j 0))) := Lib.hid (by
    obtain ⟨b', off', he, hc⟩ := C_plain hr0 (by omega)
    cases he; exact hc)
  have hbw : b < w.heap.size := C_lt hr0 (by decide) _ rfl (by omega)
  clear hr0
  have HU : Hid (walk_unlike.f l0 = some true) := Lib.hid (by unfold walk_unlike.f; rw [if_pos hlim, decide_eq_true hnd])
  have HM : Hid (slices_Min_int_int.f l0 = some (Lib.minOf l0)) := Lib.hid (by unfold slices_Min_int_int.f; rw [if_pos (by omega)])
  have t1 : decide ((l0.length : Int) < 3) = false := decide_eq_false (by omega)
  have t2 : decide (l0.length < 3) = false := decide_eq_false (by omega)
  have t3 : ¬ (l0.length : Int) < 3 := by omega
  have hmem := minOf_mem (l := l0) (by omega)
  have hil : fidx (Lib.minOf l0) l0 < l0.length := fidx_lt hmem
  have HI : Hid (Lib.idxOf (l0.take l0.length) (Lib.minOf l0) = ((fidx (Lib.minOf l0) l0 : Nat) : Int)) := Lib.hid (by
    rw [List.take_length]; have := idxFrom_fidx (zs := l0) 0 hmem; rw [Nat.zero_add] at this; exact this)
  have HF : Hid (ringOf l0 = l0.drop (fidx (Lib.minOf l0) l0) ++ l0.take (fidx (Lib.minOf l0) l0)) := Lib.hid rfl
  clear hmem hnd
  generalize fidx (Lib.minOf l0) l0 = i at hil HI HF
  generalize Lib.minOf l0 = m at HM HI
  go_enter Try.func22, Try.ntmps22
  go_wp2_with (first
    | (go_at_call 33; refine (walk_unlike.calls _ _ l0 true _ HR.out hc0 HU.out).mono ?_; rintro e w1 ⟨rfl, hb1⟩)
    | (go_at_call 36; refine (slices_Min_int_int.calls _ _ l0 m w1 (Kd.C_below HR.out hb1) hc0 HM.out).mono ?_; rintro e w2 ⟨rfl, ⟨q, rfl⟩⟩)
    | (go_at_call 41; refine (Try.slices_Index_int b off l0.length c0 l0 m (w1.drewN q) (Nat.le_refl _) hmax (fun j hj => (hb1.cell (p := ⟨b, off + j, none⟩) hbw).trans (hcw.out j hj))).mono ?_; rintro e w2 ⟨rfl, rfl⟩; rw [HI.out]))
  obtain ⟨W, hW⟩ : ∃ W, w1.drewN q = W := ⟨_, rfl⟩
  have hbW : Below w.heap.size w W := hW ▸ pw_below_drewN hb1 q
  rw [hW]
  clear hb1 hW
  have b1 : (0 : Int) ≤ (i : Int) := by omega
  have b2 : (i : Int) ≤ (l0.length : Int) := by omega
  have b3 : i ≤ l0.length := by omega
  have b4 : ¬ c0 = i := by omega
  have b5 : i ≤ c0 := by omega
  have b6 : (i : Int) ≤ (c0 : Int) := by omega
  have hC := Kd.C_below HR.out hbW
  obtain ⟨W1, hW1⟩ : ∃ W1, W.drew = W1 := ⟨_, rfl⟩
  have hbW1 : Below w.heap.size w W1 := hW1 ▸ below_drew hbW
  have hlen : Hid ((l0.drop i).length = l0.length - i) := Lib.hid List.length_drop
  have hlen2 : Hid ((l0.take i).length = i) := Lib.hid (by rw [List.length_take]; omega)
  have HCR : Hid (slices_Concat_int_int.f [l0.drop i, l0.take i] = some (ringOf l0)) := Lib.hid (by
    unfold slices_Concat_int_int.f
    have e : [l0.drop i, l0.take i].flatten = ringOf l0 := by rw [HF.out]; simp
    rw [e, ringOf_length, if_pos hlim])
  have HW1 := Lib.hid hW1
  clear hW1
  go_still_tail 6, (by kernel_rfl)
  change wpList _ _ _ _ _ W.drew
  rw [HW1.out]
  have hcz : ∀ j, j < l0.length → W1.cell? ⟨b, off + j, none⟩ = some (.int .i64 (l0.getD j 0)) := fun j hj => (hbW1.cell (p := ⟨b, off + j, none⟩) hbw).trans (hcw.out j hj)
  have HCZ := Lib.hid hcz
  clear hcz hC
  have hbN : Below w.heap.size w (W1.alloc (.cells #[.slice (some ⟨b, off + i, none⟩) (l0.length - i) (c0 - i), .slice (some ⟨b, off, none⟩) i c0] 25)) := hbW1.alloc hbW1.size _
  have hCN := Kd.C_below HR.out hbN
  have hCd : Hid (Kd.C (Kd.int .i64) (W1.alloc (.cells #[.slice (some ⟨b, off + i, none⟩) (l0.length - i) (c0 - i), .slice (some ⟨b, off, none⟩) i c0] 25)) (some ⟨b, off + i, none⟩) (l0.drop i).length (l0.drop i)) := Lib.hid (by
    have := Kd.C_drop (m := i) hCN b3 hc0
    rw [if_neg b4, show Kd.sz (Kd.int .i64) = 1 from rfl, Nat.mul_one] at this
    rw [show (some (⟨b, off, none⟩ : Addr)).map (fun x => x.add i) = some ⟨b, off + i, none⟩ by simp [add_at]] at this
    exact this)
  have hCt : Hid (Kd.C (Kd.int .i64) (W1.alloc (.cells #[.slice (some ⟨b, off + i, none⟩) (l0.length - i) (c0 - i), .slice (some ⟨b, off, none⟩) i c0] 25)) (some ⟨b, off, none⟩) (l0.take i).length (l0.take i)) := Lib.hid (Kd.C_take hCN b3)
  have hCC : Hid (Kd.C (Kd.slice 3 (Kd.int .i64)) (W1.alloc (.cells #[.slice (some ⟨b, off + i, none⟩) (l0.length - i) (c0 - i), .slice (some ⟨b, off, none⟩) i c0] 25)) (some ⟨W1.heap.size, 0, none⟩) ([l0.drop i, l0.take i] : List (List Int)).length [l0.drop i, l0.take i]) := Lib.hid (by
    refine C_two (c1 := c0 - i) (c2 := c0) ?_ hCd.out hCt.out ?_ ?_
    · rw [hlen.out, hlen2.out]; exact heap_alloc_new _ _
    · rw [hlen.out]; omega
    · rw [hlen2.out]; exact b5)
  have HbN := Lib.hid hbN
  clear hCN hbN
  have HRL : Hid ((ringOf l0).length = l0.length) := Lib.hid (ringOf_length l0)
  have HTR : Hid (turnRow l0 = if (ringOf l0).getD 1 0 > (ringOf l0).getD ((ringOf l0).length - 1) 0 then (ringOf l0).take 1 ++ ((ringOf l0).drop 1).reverse else ringOf l0) := Lib.hid rfl
  generalize htr : turnRow l0 = tr at HTR
  have Htr := Lib.hid htr
  clear htr
  generalize ringOf l0 = rg at HCR HTR HRL
  go_wp2_with (go_at_call 42; refine (slices_Concat_int_int.calls (some ⟨W1.heap.size, 0, none⟩) 2 [l0.drop i, l0.take i] rg _ hCC.out (Nat.le_refl _) HCR.out).mono ?_; rintro e w2 ⟨v, rfl, hv, hb2⟩)
  have HV := Lib.hid (Kd.R_lower hv (HbN.out.size))
  have HB2 := Lib.hid (HbN.out.trans (hb2.mono HbN.out.size))
  obtain ⟨g, cap, cur, rfl, hO⟩ := Blk.of_own (xs := rg) (by simpa [encs] using Kd.own_of_R HV.out) rfl (by have := HRL.out; omega)
  clear hv hb2
  have hN : 3 ≤ rg.length := by have := HRL.out; omega
  have hcap := hO.len
  have hN2 : rg.length ≤ 9223372036854775807 := by have := HRL.out; omega
  have hc1 : w2.cell? ⟨g, 1, none⟩ = some (.int .i64 (rg.getD 1 0)) := hO.cell 1 (by omega)
  have hc2 : w2.cell? ⟨g, rg.length - 1, none⟩ = some (.int .i64 (rg.getD (rg.length - 1) 0)) := hO.cell (rg.length - 1) (by omega)
  have HO := Lib.hid hO
  clear hO hCC hCd hCt HCZ hcw HR HCR hbW hbW1 HW1 HI HM HF HU
  generalize hx : rg.getD 1 0 = x at hc1 HTR
  generalize hy : rg.getD (rg.length - 1) 0 = y at hc2 HTR
  have n1 : (1 : Int) < (rg.length : Int) := by omega
  have n2 : (0 : Int) ≤ (rg.length : Int) - 1 := by omega
  have n3 : IntKind.i64.wrap ((rg.length : Int) - 1) = (rg.length : Int) - 1 := IntWalk.i64_in _ (by omega)
  have n4 : ((rg.length : Int) - 1).toNat = rg.length - 1 := by omega
  have n5 : (rg.length : Int) - 1 < (rg.length : Int) := by omega
  have n6 : 1 < rg.length := by omega
  have n7 : (1 : Int) ≤ (rg.length : Int) := by omega
  have n8 : 1 ≤ rg.length := by omega
  by_cases hxy : x > y
  · have d1 : decide (x > y) = true := decide_eq_true hxy
    have d2 : y < x := hxy
    have HT2 : Hid (tr = rg.take 1 ++ (rg.drop 1).reverse) := Lib.hid (by rw [HTR.out, if_pos hxy])
    go_quiet (fail)
    have hO1 : Blk (w2.drewN nq) w.heap.size g cap cur rg := HO.out.below (pw_below_drewN (Below.refl _ _) _)
    have hB1 : Below w.heap.size w (w2.drewN nq) := pw_below_drewN HB2.out _
    generalize w2.drewN nq = W4 at hO1 hB1 ⊢
    have n9 : ¬ cap = 1 := by omega
    have n10 : 1 ≤ cap := by omega
    have n11 : (1 : Int) ≤ (cap : Int) := by omega
    have hcs : Hid (∀ j, j < (rg.drop 1).length → W4.cell? ⟨g, 1 + j, none⟩ = some (.int .i64 ((rg.drop 1).getD j 0))) := Lib.hid (fun j hj => by
      rw [List.length_drop] at hj
      have := hO1.cell (1 + j) (by omega)
      rw [this]; simp [List.getD_eq_getElem?_getD, List.getElem?_drop, Nat.add_comm])
    have hfz : Hid (∀ j, j < rg.length - 1 → W4.frozen? ⟨g, 1 + j, none⟩ = false) := Lib.hid (fun j _ => blk_frozen hO1.blk (1 + j))
    have hz : rg.length - 1 ≤ (rg.drop 1).length := by rw [List.length_drop]; exact Nat.le_refl _
    have HO1 := Lib.hid hO1
    have HB1 := Lib.hid hB1
    clear hO1 hB1 HB2 HO HV hc1 hc2 hx hy HTR HbN
    go_wp2_with (go_at_call 43; refine (Try.slices_Reverse_int_cells g 1 (rg.length - 1) (cap - 1) (rg.drop 1) W4 hz (by omega) hcs.out hfz.out).mono ?_; rintro e w5 ⟨rfl, q, hw5⟩; have HW5 := Lib.hid hw5; clear hw5)
    have hfin := HO1.out.rev n8 q
    rw [← HT2.out, ← Htr.out, ← HW5.out] at hfin
    have hfb : Below w.heap.size w w5 := by rw [HW5.out]; exact bel_setCells HO1.out.bas _ _ _ (pw_below_drewN HB1.out _)
    have HFI := Lib.hid hfin
    clear hfin HT2
    go_ret
    exact ⟨_, rfl, HFI.out, hfb⟩
  · have d1 : decide (x > y) = false := decide_eq_false hxy
    have d2 : ¬ y < x := hxy
    have d3 : x ≤ y := by omega
    have HT2 : Hid (tr = rg) := Lib.hid (by rw [HTR.out, if_neg hxy])
    go_quiet (fail)
    have HV1 := Lib.hid (Kd.R_below HV.out (pw_below_drewN (Below.refl _ _) nq))
    have HB1 := Lib.hid (pw_below_drewN HB2.out nq)
    generalize w2.drewN nq = W4 at HV1 HB1 ⊢
    clear HB2 HO HV hc1 hc2 hx hy HTR HbN
    go_wp2
    go_ret
    refine ⟨_, rfl, ?_, HB1.out⟩
    rw [Htr.out, HT2.out]
    exact HV1.out

theorem walk_Turn.calls (A0 : Option Addr) (c0 : Nat) (l0 : List Int) (r : List Int) (w : World) (hr0 : Kd.C (Kd.int .i64) w A0 l0.length l0) (hc0 : l0.length ≤ c0) (h : walk_Turn.f l0 = some r) :
    Calls Try.prog 22 #[.slice A0 l0.length c0] w fun e w' => ∃ v0_ : Value, e = .returned (v0_) ∧ Kd.R (Kd.int .i64) 3 w' w.heap.size (fun _ => True) v0_ r ∧ Below w.heap.size w w' := by
  unfold walk_Turn.f at h
  split at h
  · next hlim =>
    split at h
    · next hp =>
      obtain rfl := Option.some.inj h
      exact turn_plain A0 c0 l0 w hr0 hc0 hlim hp
    · next hp =>
      obtain rfl := Option.some.inj h
      have h3 : 3 ≤ l0.length := by
        rcases Nat.lt_or_ge l0.length 3 with h | h
        · exact absurd (.inl h) hp
        · exact h
      have hnd : l0.Nodup := Classical.byContradiction fun h => hp (.inr h)
      obtain ⟨b, off, rfl, _⟩ := C_plain hr0 (by omega)
      exact turn_ring b off c0 l0 w hr0 hc0 hlim h3 hnd
  · cases h

end Go.Proofs.Ytngglgkemonibaa.P
