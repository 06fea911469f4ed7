/- carcanetref03.Sorted: insertion, with copy. -/
import Derived.StillTailTactics
import Derived.Laws.CopyOwn
import Derived.OwnWalk
import Derived.BigQuiet
import Derived.Deep.QuietTactic
import Derived.Outline
import Derived.IntWalk
import Derived.Test.YtngglgkemonibaaUnlike
namespace Go.Proofs.Ytngglgkemonibaa.P
open Go.RowKit Go.Sort Go.Proofs.YtngglgkemonibaaW.PrintWords
set_option linter.unusedVariables false
set_option linter.unusedSimpArgs false

/-- x put in at place j -/
def putAt (xs : List Int) (j : Nat) (x : Int) : List Int := xs.take j ++ x :: xs.drop j
/-- from the end on, past all that are greater -/
def place (xs : List Int) (x : Int) : Nat → Nat
  | 0 => 0
  | j + 1 => if xs.getD j 0 > x then place xs x j else j + 1
def insR (xs : List Int) (x : Int) : List Int := putAt xs (place xs x xs.length) x
def sortR (l : List Int) : List Int := l.foldl insR []
theorem insR_length (xs : List Int) (x : Int) : (insR xs x).length = xs.length + 1 := by
  unfold insR putAt
  rw [List.length_append, List.length_cons, List.length_take, List.length_drop]; omega
theorem foldl_len (l : List Int) : ∀ acc : List Int, (l.foldl insR acc).length = acc.length + l.length := by
  induction l with
  | nil => intro acc; simp
  | cons x l ih => intro acc; rw [List.foldl_cons, ih, insR_length, List.length_cons]; omega
theorem sortR_length (l : List Int) : (sortR l).length = l.length := by rw [sortR, foldl_len]; simp
theorem sortR_snoc (l : List Int) (x : Int) : sortR (l ++ [x]) = insR (sortR l) x := by simp [sortR]
theorem place_le (xs : List Int) (x : Int) : ∀ j, place xs x j ≤ j
  | 0 => Nat.le_refl _
  | j + 1 => by
    unfold place
    split
    · exact Nat.le_succ_of_le (place_le xs x j)
    · exact Nat.le_refl _

theorem place_go {xs : List Int} {x : Int} {j : Nat} (h : 0 < j) (hx : x < xs.getD (j - 1) 0) : place xs x j = place xs x (j - 1) := by
  obtain ⟨m, rfl⟩ : ∃ m, j = m + 1 := ⟨j - 1, by omega⟩
  rw [Nat.add_sub_cancel] at hx ⊢
  rw [place, if_pos hx]
theorem place_stop {xs : List Int} {x : Int} {j : Nat} (h : j = 0 ∨ (0 < j ∧ ¬ x < xs.getD (j - 1) 0)) : place xs x j = j := by
  rcases h with rfl | ⟨h, hx⟩
  · rfl
  · obtain ⟨m, rfl⟩ : ∃ m, j = m + 1 := ⟨j - 1, by omega⟩
    rw [Nat.add_sub_cancel] at hx
    rw [place, if_neg hx]

def carcanetref03_Sorted.f (l0 : List Int) : Option (List Int) := if l0.length < 17592186044415 then some (sortR l0) else none

/-- a slice of the call's own that is not nil, with its block -/
structure Blk (W : World) (base : Nat) (g cap : Nat) (cur : Array Value) (xs : List Int) : Prop where
  bas : base ≤ g
  blk : W.heap[g]? = some (.cells cur 3 (0, 0))
  len : xs.length ≤ cap
  cle : cap ≤ 9223372036854775807
  siz : cur.size = cap
  cells : cur.toList.take xs.length = xs.map (Value.int .i64)
theorem Blk.own {W : World} {base g cap : Nat} {cur : Array Value} {xs : List Int} (h : Blk W base g cap cur xs) : W.ownsRow base 3 1 (.slice (some ⟨g, 0, none⟩) xs.length cap) xs.length (xs.map (Value.int .i64)) :=
  ⟨by simp, .inr ⟨g, cap, cur, rfl, h.bas, h.blk, h.len, h.cle, by rw [Nat.mul_one]; exact h.siz, by rw [Nat.mul_one]; exact h.cells⟩⟩
theorem Blk.cell {W : World} {base g cap : Nat} {cur : Array Value} {xs : List Int} (h : Blk W base g cap cur xs) (j : Nat) (hj : j < xs.length) : W.cell? ⟨g, j, none⟩ = some (.int .i64 (xs.getD j 0)) := by
  rw [blk_cell h.blk]
  have h1 : (cur.toList.take xs.length)[j]? = (xs.map (Value.int .i64))[j]? := by rw [h.cells]
  rw [List.getElem?_take_of_lt hj, List.getElem?_map, Array.getElem?_toList] at h1
  rw [h1, List.getD_eq_getElem?_getD, List.getElem?_eq_getElem hj]; rfl
theorem Blk.of_own {W : World} {base n : Nat} {v : Value} {xs : List Int} (h : W.ownsRow base 3 1 v n (xs.map (Value.int .i64))) (hn : n = xs.length) (h0 : 0 < n) : ∃ g cap cur, v = .slice (some ⟨g, 0, none⟩) xs.length cap ∧ Blk W base g cap cur xs := by
  subst hn
  rcases h.2 with ⟨_, hz⟩ | ⟨g, cap, cur, rfl, hb, hg, r1, r2, r3, r4⟩
  · omega
  · exact ⟨g, cap, cur, rfl, hb, hg, r1, r2, by rw [Nat.mul_one] at r3; exact r3, by rw [Nat.mul_one] at r4; exact r4⟩
theorem Blk.below {W W' : World} {base g cap : Nat} {cur : Array Value} {xs : List Int} (h : Blk W base g cap cur xs) (hb : Below W.heap.size W W') : Blk W' base g cap cur xs :=
  ⟨h.bas, (hb.block g (blk_lt h.blk)).trans h.blk, h.len, h.cle, h.siz, h.cells⟩

theorem final_cells (xs : List Int) (x : Int) (j k : Nat) (cur : List Value) (hk : xs.length = k) (hj : j ≤ k) (hc : k + 1 ≤ cur.length) (hcur : cur.take (k + 1) = (xs ++ [0]).map (Value.int .i64)) (hp : place xs x xs.length = j) :
    ((splice cur (j + 1) ((xs.drop j).map (Value.int .i64))).toArray.setIfInBounds j (Value.int .i64 x)).toList.take (k + 1) = (insR xs x).map (Value.int .i64) := by
  unfold insR putAt
  rw [hp]
  have e1 : cur.take j = (xs.take j).map (Value.int .i64) := by
    have : (cur.take (k + 1)).take j = ((xs ++ [0]).map (Value.int .i64)).take j := by rw [hcur]
    rw [List.take_take, Nat.min_eq_left (by omega), ← List.map_take, List.take_append_of_le_length (by omega)] at this
    exact this
  have e2 : cur.take (j + 1) = cur.take j ++ [cur[j]'(by omega)] := by rw [List.take_succ_eq_append_getElem]
  simp only [splice, List.setIfInBounds_toArray, List.toList_toArray]
  rw [e2, List.append_assoc, List.set_append_right _ _ (by rw [List.length_take]; omega), List.length_take, Nat.min_eq_left (by omega), Nat.sub_self]
  simp only [List.singleton_append, List.set_cons_zero]
  rw [e1]
  generalize List.drop _ cur = rest
  rw [show (xs.take j).map (Value.int .i64) ++ Value.int .i64 x :: ((xs.drop j).map (Value.int .i64) ++ rest) = ((xs.take j ++ x :: xs.drop j).map (Value.int .i64)) ++ rest from by simp]
  exact List.take_left' (by simp; omega)

set_option maxRecDepth 100000 in
set_option maxHeartbeats 4000000 in
theorem sorted_walk (A0 : Option Addr) (c0 : Nat) (l0 : List Int) (w : World) (hr0 : Kd.C (Kd.int .i64) w A0 l0.length l0) (hlim : l0.length < 17592186044415) :
    Calls Try.prog 55 #[.slice A0 l0.length c0] w fun e w' => ∃ v0_ : Value, e = .returned (v0_) ∧ w'.ownsRow w.heap.size 3 1 v0_ l0.length ((sortR l0).map (Value.int .i64)) ∧ Below w.heap.size w w' := by
  obtain ⟨i0, hi, hz0, hz1, hz2⟩ := info_parts info3
  have HR := Lib.hid hr0
  clear hr0
  go_enter Try.func55, Try.ntmps55
  go_wp2
  go_loopw [3, 4] (fun v i wr => ∃ (k g cap : Nat) (cur : Array Value), k ≤ l0.length ∧ i = .int .i64 k ∧ v = .slice (some ⟨g, 0, none⟩) k cap ∧ Blk wr w.heap.size g cap cur (sortR (l0.take k)) ∧ Below w.heap.size w wr)
    (fun _ i _ => l0.length - (intOf i).toNat)
  case atStart =>
    exact ⟨0, w.heap.size, 0, #[], Nat.zero_le _, rfl, rfl, ⟨Nat.le_refl _, World.alloc_heap_new w _, by simp [sortR_length], by omega, rfl, by simp [sortR]⟩, (Below.refl _ w).alloc (Nat.le_refl _) _⟩
  case round =>
    obtain ⟨k, g, cap, cur, hk, rfl, rfl, hown, hB⟩ := hrel
    have hlen : (sortR (l0.take k)).length = k := by rw [sortR_length, List.length_take]; omega
    by_cases hlt : k < l0.length
    · have hC : Kd.C (Kd.int .i64) wr A0 l0.length l0 := Kd.C_below HR.out hB
      obtain ⟨b, off, rfl, hc⟩ := C_plain hC (by omega)
      have hbw : b < w.heap.size := C_lt HR.out (by decide) _ rfl (by omega)
      have hx := hc k hlt
      have hxw : w.cell? ⟨b, off + k, none⟩ = some (.int .i64 (l0.getD k 0)) := ((hB.cell (p := ⟨b, off + k, none⟩) hbw).symm.trans hx)
      have HX : Hid (sortR (l0.take (k + 1)) = insR (sortR (l0.take k)) (l0.getD k 0)) := Lib.hid (by
        rw [List.take_succ_eq_append_getElem hlt, sortR_snoc, List.getD_eq_getElem?_getD, List.getElem?_eq_getElem hlt]; rfl)
      generalize sortR (l0.take k) = xs at hown hlen HX
      generalize l0.getD k 0 = x at hx hxw HX
      have HXW := Lib.hid hxw
      clear hxw
      have HL := Lib.hid hlen
      have HO := Lib.hid hown
      clear hc hlen hown hC
      go_wp2
      go_loopw [5] (fun v w2 => ∃ j : Nat, j ≤ k ∧ v = .int .i64 j ∧ place xs x xs.length = place xs x j ∧ ∃ q, w2 = wr.drewN q) (fun v _ => (intOf v).toNat)
      case atStart => exact ⟨k, Nat.le_refl _, rfl, by rw [HL.out], 0, rfl⟩
      case round =>
        obtain ⟨j, hj, rfl, hpl, q, rfl⟩ := hrel
        have HP := Lib.hid hpl
        clear hpl
        by_cases hgo : 0 < j ∧ x < xs.getD (j - 1) 0
        · obtain ⟨hj0, hxy⟩ := hgo
          have hcj : wr.cell? ⟨g, j - 1, none⟩ = some (.int .i64 (xs.getD (j - 1) 0)) := HO.out.cell (j - 1) (by have := HL.out; omega)
          have HP2 : Hid (place xs x j = place xs x (j - 1)) := Lib.hid (place_go hj0 hxy)
          generalize xs.getD (j - 1) 0 = y at hcj hxy
          have q1 : 0 ≤ (j : Int) - 1 := by omega
          have q2 : (j : Int) - 1 < (k : Int) := by omega
          have q3 : IntKind.i64.wrap ((j : Int) - 1) = (j : Int) - 1 := IntWalk.i64_in _ (by omega)
          have q4 : ((j : Int) - 1).toNat = j - 1 := by omega
          have q5 : (1 : Int) ≤ (j : Int) := by omega
          have q6 : (j : Int) ≤ (k : Int) := by omega
          have q7 : 1 ≤ j := by omega
          go_wp2
          go_quiet (fail)
          go_wp2
          go_roundw
          case rel => exact ⟨j - 1, by omega, by congr 1; omega, by rw [HP.out, HP2.out], _, rfl⟩
          case measure => simp [intOf]; omega
        · have hgo' : j = 0 ∨ (0 < j ∧ ¬ x < xs.getD (j - 1) 0) := by
            rcases Nat.eq_zero_or_pos j with h0 | h0
            · exact .inl h0
            · exact .inr ⟨h0, fun h => hgo ⟨h0, h⟩⟩
          have HJ : Hid (place xs x xs.length = j) := Lib.hid (HP.out.trans (place_stop hgo'))
          clear hgo
          rcases hgo' with h0 | ⟨hj0, hxy⟩
          focus
            have d1 : decide (0 < j) = false := decide_eq_false (by omega)
            have d2 : decide ((0 : Int) < (j : Int)) = false := decide_eq_false (by omega)
            have H0 := Lib.hid h0
            clear h0
            go_wp2
            go_quiet (fail)
          rotate_left
          focus
            have hcj : wr.cell? ⟨g, j - 1, none⟩ = some (.int .i64 (xs.getD (j - 1) 0)) := HO.out.cell (j - 1) (by have := HL.out; omega)
            generalize xs.getD (j - 1) 0 = y at hcj hxy
            have q1 : 0 ≤ (j : Int) - 1 := by omega
            have q2 : (j : Int) - 1 < (k : Int) := by omega
            have q3 : IntKind.i64.wrap ((j : Int) - 1) = (j : Int) - 1 := IntWalk.i64_in _ (by omega)
            have q4 : ((j : Int) - 1).toNat = j - 1 := by omega
            have q5 : (1 : Int) ≤ (j : Int) := by omega
            have q6 : (j : Int) ≤ (k : Int) := by omega
            have q7 : 1 ≤ j := by omega
            go_wp2
            go_quiet (fail)
            clear hcj q1 q2 q3 q4 q5 q6 q7
          all_goals
            have hO1 : Blk ((wr.drewN q).drewN nq) w.heap.size g cap cur xs := HO.out.below (pw_below_drewN (pw_below_drewN (Below.refl _ _) _) _)
            have hB1 : Below w.heap.size w ((wr.drewN q).drewN nq) := pw_below_drewN (pw_below_drewN hB _) _
            have hx1 : ((wr.drewN q).drewN nq).cell? ⟨b, off + k, none⟩ = some (.int .i64 x) := hx
            generalize (wr.drewN q).drewN nq = W1 at hO1 hB1 hx1 ⊢
            have hr5 := hO1.own.alloc (.cells #[.int .i64 0] 3)
            have hl := HL.out
            rw [hl] at hr5
            have hr6 := cell_one_new W1 (.int .i64 0) 3
            have hone : ∀ u ∈ [Value.int .i64 0], u.oneCell' = true := by intro u hu; rw [List.mem_singleton.1 hu]; rfl
            have hm1 : k + 1 ≤ maxLen := by unfold maxLen; omega
            have hm2 : (k + 1) * 8 ≤ 140737488355328 := by omega
            have hm3 : w.heap.size ≤ (W1.alloc (.cells #[.int .i64 0] 3)).heap.size := by rw [World.size_alloc]; have := hB1.size; omega
            have hO1' := Lib.hid hO1
            have hl' := Lib.hid hl
            clear hO1 hl hx
            go_wp2_with (at_builtin; go_loud (refine wpList_append_own _ rfl _ _ 25 rfl w.heap.size 3 i0 (.int .i64 0) 1 8 Try.underlying25 hi hz0 hz1 hz2 rfl (by decide) _ _ _ rfl hr5 ⟨W1.heap.size, 0, none⟩ 1 1 [.int .i64 0] rfl rfl hr6 hone hm1 hm2 hm3 ?_); go_loud (intro v' w3 hown' hgrow _))
            obtain ⟨g3, cap3, cur3, rfl, hO3⟩ := Blk.of_own (xs := xs ++ [0]) (by rw [List.map_append]; exact hown') (by simp [hl'.out]) (by omega)
            have hB3 : Below w.heap.size w w3 := (hB1.alloc hB1.size _).grown hgrow (by rw [World.size_alloc]; have := hB1.size; omega) (fun kk e => own_base hr5 kk e)
            have hlen3 : (xs ++ [0]).length = k + 1 := by simp [hl'.out]
            rw [hlen3]
            have hcap3 : k + 1 ≤ cap3 := hlen3 ▸ hO3.len
            clear hown' hgrow hr5 hr6 hone hm1 hm2 hm3 hx1 hB1
            have HO3 := Lib.hid hO3
            have HL3 := Lib.hid hlen3
            clear hO3 hlen3
            have e1 : IntKind.i64.wrap ((j : Int) + 1) = (j : Int) + 1 := IntWalk.i64_in _ (by omega)
            have hb3 : Hid (w3.drew.heap[g3]? = some (.cells cur3.toList.toArray 3 (0, 0))) := Lib.hid (by rw [Array.toArray_toList]; exact HO3.out.blk)
            have hBd : Below w.heap.size w w3.drew := below_drew hB3
            have hcsl : Hid (((xs.drop j).map (Value.int .i64)).length = k - j) := Lib.hid (by simp [hl'.out])
            have hsrc : ∀ jj v, ((xs.drop j).map (Value.int .i64))[jj]? = some v → w3.drew.cell? ((⟨g3, j, none⟩ : Addr).add jj) = some v := by
              intro jj v hv
              have hlt2 : jj < k - j := by have := (List.getElem?_eq_some_iff.1 hv).1; rw [hcsl.out] at this; exact this
              have h1 : w3.cell? ⟨g3, j + jj, none⟩ = some (.int .i64 ((xs ++ [0]).getD (j + jj) 0)) := HO3.out.cell (j + jj) (by rw [HL3.out]; omega)
              rw [add_at]
              show w3.cell? ⟨g3, j + jj, none⟩ = some v
              rw [h1, ← hv, List.getElem?_map, List.getElem?_drop, List.getD_eq_getElem?_getD, List.getElem?_append_left (by rw [hl'.out]; omega), List.getElem?_eq_getElem (by rw [hl'.out]; omega)]
              rfl
            have hfit : j + 1 + ((xs.drop j).map (Value.int .i64)).length ≤ cur3.toList.length := by
              rw [hcsl.out, Array.length_toList, HO3.out.siz]; omega
            have hone2 : ∀ v ∈ (xs.drop j).map (Value.int .i64), v.oneCell' = true := by
              intro v hv
              obtain ⟨z, _, rfl⟩ := List.mem_map.1 hv
              rfl
            have hgb : w.heap.size ≤ g3 := HO3.out.bas
            have HS := Lib.hid hsrc
            clear hsrc
            have hmin : Hid (((xs.drop j).map (Value.int .i64)).length = Nat.min (k + 1 - j) (k - j)) := Lib.hid (by rw [hcsl.out]; simp only [Nat.min_def]; split <;> omega)
            have hmin2 : Hid (((xs.drop j).map (Value.int .i64)).length = Nat.min (k + 1 - j) (k + 1 - (j + 1))) := Lib.hid (by rw [hcsl.out]; simp only [Nat.min_def]; split <;> omega)
            have b3 : (j : Int) ≤ (k : Int) + 1 := by omega
            have b5 : j ≤ k + 1 := by omega
            have b1 : (0 : Int) ≤ (j : Int) + 1 := by omega
            have b2 : (j : Int) + 1 ≤ (k : Int) + 1 := by omega
            have b4 : ((j : Int) + 1).toNat = j + 1 := by omega
            have b7 : ¬ cap3 = j := by omega
            have hinfo : (Try.prog.info? 3).map (·.size) = some 1 := by rw [hi]; exact congrArg some hz1
            rcases Nat.lt_or_ge j k with hjk | hjk
            focus
              have b6 : ¬ cap3 = j + 1 := by omega
              go_still_tail 7, (by kernel_rfl)
              refine wpList_copy_splice rfl _ _ 25 25 rfl 3 Try.underlying25 hinfo _ _ _ _ _ _ rfl rfl g3 (j + 1) cur3.toList 3 hb3.out ((xs.drop j).map (Value.int .i64)) hmin.out (fun _ => ⟨rfl, _, rfl, HS.out⟩) hfit hone2 w.heap.size w hBd hgb ?_
              clear b6
            rotate_left
            focus
              by_cases b6 : cap3 = j + 1
              focus
                go_still_tail 7, (by kernel_rfl)
                refine wpList_copy_splice rfl _ _ 25 25 rfl 3 Try.underlying25 hinfo _ _ _ _ _ _ rfl rfl g3 (j + 1) cur3.toList 3 hb3.out ((xs.drop j).map (Value.int .i64)) (by first | exact hmin.out | exact hmin2.out | (rw [hcsl.out]; simp only [Nat.min_def]; split <;> omega)) (fun h => absurd h (by have := hcsl.out; omega)) hfit hone2 w.heap.size w hBd hgb ?_
                have B6 := Lib.hid b6
                clear b6
              rotate_left
              focus
                go_still_tail 7, (by kernel_rfl)
                refine wpList_copy_splice rfl _ _ 25 25 rfl 3 Try.underlying25 hinfo _ _ _ _ _ _ rfl rfl g3 (j + 1) cur3.toList 3 hb3.out ((xs.drop j).map (Value.int .i64)) (by first | exact hmin.out | exact hmin2.out | (rw [hcsl.out]; simp only [Nat.min_def]; split <;> omega)) (fun h => absurd h (by have := hcsl.out; omega)) hfit hone2 w.heap.size w hBd hgb ?_
                clear b6
            all_goals
              intro w4 hw4 hB4
              have hx4 : w4.cell? ⟨b, off + k, none⟩ = some (.int .i64 x) := (hB4.cell (p := ⟨b, off + k, none⟩) hbw).trans HXW.out
              obtain ⟨z4, hz4⟩ : ∃ z, w4.cell? ⟨g3, j, none⟩ = some z := by
                rw [blk_cell hw4.out]
                have hl5 : j < (splice cur3.toList (j + 1) ((xs.drop j).map (Value.int .i64))).length := by
                  rw [length_splice _ _ _ hfit, Array.length_toList, HO3.out.siz]; omega
                rw [List.getElem?_toArray]
                exact ⟨_, List.getElem?_eq_getElem hl5⟩
              have hf4 := blk_frozen hw4.out j
              have c1 : j < k + 1 := by omega
              have c2 : (j : Int) < (k : Int) + 1 := by omega
              clear HS
              go_wp2
              go_roundw
              case rel =>
                refine ⟨k + 1, g3, cap3, (splice cur3.toList (j + 1) ((xs.drop j).map (Value.int .i64))).toArray.setIfInBounds j (.int .i64 x), by omega, by go_num, (by first | rfl | rw [B6.out]), ?_, hB4.setCell (p := ⟨g3, j, none⟩) hgb _⟩
                rw [HX.out]
                have hL5 : (insR xs x).length = k + 1 := by rw [insR_length, hl'.out]
                exact ⟨hgb, blk_set hw4.out j _, by rw [hL5]; exact hcap3, HO3.out.cle, by rw [Array.size_setIfInBounds, List.size_toArray, length_splice _ _ _ hfit, Array.length_toList, HO3.out.siz], by
                  rw [hL5]
                  exact final_cells xs x j k cur3.toList hl'.out hj (by rw [Array.length_toList, HO3.out.siz]; omega) (by have := HO3.out.cells; rw [HL3.out] at this; exact this) HJ.out⟩
              case measure => simp [intOf]; omega
    · obtain rfl : k = l0.length := by omega
      go_wp2
      go_ret
      have hl := hown.own
      rw [hlen] at hl
      rw [List.take_length] at hl
      exact ⟨_, rfl, hl, hB⟩

theorem carcanetref03_Sorted.calls (A0 : Option Addr) (c0 : Nat) (l0 : List Int) (r : List Int) (w : World) (hr0 : Kd.C (Kd.int .i64) w A0 l0.length l0) (hc0 : l0.length ≤ c0) (h : carcanetref03_Sorted.f l0 = some r) :
    Calls Try.prog 55 #[.slice A0 l0.length c0] w fun e w' => ∃ v0_ : Value, e = .returned (v0_) ∧ Kd.R (Kd.int .i64) 3 w' w.heap.size (fun _ => True) v0_ r ∧ Below w.heap.size w w' := by
  unfold carcanetref03_Sorted.f at h
  split at h
  · next hl =>
    obtain rfl := Option.some.inj h
    refine (sorted_walk A0 c0 l0 w hr0 hl).mono ?_
    rintro e w' ⟨v, rfl, ho, hb⟩
    rw [← sortR_length l0] at ho
    exact ⟨v, rfl, Kd.R_of_own ho (fun _ _ => trivial), hb⟩
  · cases h

end Go.Proofs.Ytngglgkemonibaa.P
