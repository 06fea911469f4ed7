/- slices.Grow at nil, slices.Concat at rows of ints. -/
import Derived.Test.YtngglgkemonibaaSorted
namespace Go.Proofs.Ytngglgkemonibaa.P
open Go.RowKit Go.Sort Go.Proofs.YtngglgkemonibaaW.PrintWords
set_option linter.unusedVariables false
set_option linter.unusedSimpArgs false

theorem own_zero {w : World} {base n g cap : Nat} {xs : List Value} (h : w.ownsRow base 3 1 (.slice (some ⟨g, 0, none⟩) n cap) n xs) : w.ownsRow base 3 1 (.slice (some ⟨g, 0, none⟩) 0 cap) 0 [] := by
  rcases h.2 with ⟨h1, _⟩ | ⟨g', cap', cur, he, h1, h2, h3, h4, h5, _⟩
  · cases h1
  · injection he with ha _ hc
    injection ha with ha
    injection ha with ha
    subst ha; subst hc
    exact ⟨rfl, .inr ⟨g, cap, cur, rfl, h1, h2, by omega, h4, h5, by simp⟩⟩

theorem blk_zeros {w : World} {base n : Nat} {ok : Nat → Prop} {v : Value} (h : Kd.R (Kd.int .i64) 3 w base ok v ([] ++ List.replicate (n : Int).toNat (0 : Int))) (hn : 0 < n) :
    ∃ g cap cur, v = .slice (some ⟨g, 0, none⟩) n cap ∧ Blk w base g cap cur (List.replicate n 0) := by
  rw [List.nil_append, Int.toNat_natCast] at h
  have h1 := Kd.own_of_R h
  obtain ⟨g, cap, cur, rfl, hO⟩ := Blk.of_own (xs := List.replicate n 0) (by simpa [encs] using h1) (by simp) (by simpa using hn)
  exact ⟨g, cap, cur, by simp, hO⟩

set_option maxHeartbeats 2000000 in
theorem grow_nil (n : Nat) (hn : n < 17592186044416) (w : World) :
    Calls Try.prog 56 #[.slice none 0 0, .int .i64 n] w fun e w' => ∃ v : Value, e = .returned v ∧ w'.ownsRow w.heap.size 3 1 v 0 [] ∧ Below w.heap.size w w' := by
  have h0 : decide ((n : Int) < 0) = false := decide_eq_false (by omega)
  have h00 : ¬ (n : Int) < 0 := by omega
  by_cases hz : n = 0
  · subst hz
    go_enter Try.func56, Try.ntmps56
    go_wp2
    go_ret
    exact ⟨_, rfl, own_nil _ _ _ _, Below.refl _ _⟩
  · have hp : 0 < n := by omega
    clear hz
    have hp2 : (0 : Int) < (n : Int) := by omega
    have a1 : (Kd.int .i64).M w w.heap.size (fun _ => False) (0 : Int) (Value.int .i64 0).cells.toList := rfl
    have a2 : ∀ k, w.heap.size ≤ k → True := fun _ _ => trivial
    have a3 := Kd.R_nil (Kd.int .i64) 3 w w.heap.size (fun _ => True)
    have a4 : (0 : Int) ≤ (n : Int) := by omega
    have a5 : (([] : List Int).length + (n : Int).toNat) * 8 ≤ 140737488355328 := by simp; omega
    have a6 : 0 < (Kd.int .i64).sz := by decide
    have a7 : 0 < 8 := by omega
    go_enter Try.func56, Try.ntmps56
    go_wp2_with (at_builtin; go_loud (refine Kd.R_append_zeros (Kd.int .i64) (w0 := w) w.heap.size rfl _ _ 25 3 3 (.int .i64 0) 8 rfl Try.underlying25 Try.underlying3 info3 rfl a6 a7 (.slice none 0 0) [] (0 : Int) (n : Int) (fun _ => True) rfl rfl a1 a2 a3 a4 (Below.refl _ _) (Nat.le_refl _) a5 ?_); go_loud (intro v1 w1 h1 h2 h3 h4); go_loud (obtain ⟨g, cap, cur, rfl, hO⟩ := blk_zeros h1 hp); go_loud (have HO := Lib.hid hO))
    go_ret
    have h6 := own_zero hO.own
    exact ⟨_, rfl, h6, h2⟩

/-- the rows one behind the other -/
def slices_Concat_int_int.f (l0 : List (List Int)) : Option (List Int) := if l0.flatten.length < 17592186044416 then some l0.flatten else none

theorem flat_take (ls : List (List Int)) (k : Nat) (h : k < ls.length) : (ls.take (k + 1)).flatten = (ls.take k).flatten ++ ls.getD k [] := by
  rw [List.take_succ_eq_append_getElem h, List.flatten_append, List.getD_eq_getElem?_getD, List.getElem?_eq_getElem h]; simp
theorem flat_le (ls : List (List Int)) (k : Nat) : (ls.take k).flatten.length ≤ ls.flatten.length := by
  conv => rhs; rw [← List.take_append_drop k ls, List.flatten_append, List.length_append]
  omega

set_option maxRecDepth 100000 in
set_option maxHeartbeats 4000000 in
theorem slices_Concat_int_int.calls (A0 : Option Addr) (c0 : Nat) (l0 : List (List Int)) (r : List Int) (w : World) (hr0 : Kd.C (Kd.slice 3 (Kd.int .i64)) w A0 l0.length l0) (hc0 : l0.length ≤ c0) (h : slices_Concat_int_int.f l0 = some r) :
    Calls Try.prog 42 #[.slice A0 l0.length c0] w fun e w' => ∃ v0_ : Value, e = .returned (v0_) ∧ Kd.R (Kd.int .i64) 3 w' w.heap.size (fun _ => True) v0_ r ∧ Below w.heap.size w w' := by
  unfold slices_Concat_int_int.f at h
  split at h
  · next hlim =>
    obtain rfl := Option.some.inj h
    have hmax := hr0.2.1
    have HR := Lib.hid hr0
    have HL := Lib.hid hlim
    clear hr0 h hlim
    go_enter Try.func42, Try.ntmps42
    go_wp2
    go_loop [3, 11] (fun s i => ∃ k : Nat, k ≤ l0.length ∧ i = .int .i64 k ∧ s = .int .i64 ((l0.take k).flatten.length : Nat)) (fun _ i => l0.length - (intOf i).toNat)
    case atStart => exact ⟨0, Nat.zero_le _, rfl, rfl⟩
    case round =>
      obtain ⟨k, hk, rfl, rfl⟩ := hrel
      by_cases hlt : k < l0.length
      · obtain ⟨ad, A1, c1, rfl, hcell, hle, hC⟩ := at_L5 HR.out (k : Int) (by omega) (by omega)
        rw [Int.toNat_natCast] at hcell
        have HF : Hid ((l0.take (k + 1)).flatten.length = (l0.take k).flatten.length + (rd_L5 l0 (k : Int)).length) := Lib.hid (by
          rw [flat_take l0 k hlt, List.length_append]; simp [rd_L5])
        have hb1 : (l0.take k).flatten.length + (rd_L5 l0 (k : Int)).length < 17592186044416 := by
          have := flat_le l0 (k + 1); rw [HF.out] at this; have := HL.out; omega
        generalize rd_L5 l0 (k : Int) = row at hcell hle hC HF hb1
        generalize (l0.take k).flatten.length = n at HF hb1
        have hd0 : decide ((n : Int) + (row.length : Int) < 0) = false := decide_eq_false (by omega)
        have hd1 : ¬ ((n : Int) + (row.length : Int) < 0) := by omega
        clear hC hle
        go_wp2
        go_round
        case rel => exact ⟨k + 1, by omega, by go_num, by rw [HF.out]; go_num⟩
        case measure => simp [intOf]; omega
      · obtain rfl : k = l0.length := by omega
        have HT : Hid ((l0.take l0.length).flatten.length = l0.flatten.length) := Lib.hid (by rw [List.take_length])
        have hn : (l0.take l0.length).flatten.length < 17592186044416 := by rw [HT.out]; exact HL.out
        generalize (l0.take l0.length).flatten.length = n at hn
        clear HT hlt
        go_wp2_with (go_at_call 56; refine (grow_nil n hn w).mono ?_; rintro e w1 ⟨v, rfl, hv, hb⟩)
        go_loopw [6, 27] (fun v i wr => ∃ k : Nat, k ≤ l0.length ∧ i = .int .i64 k ∧ Kd.R (Kd.int .i64) 3 wr w.heap.size (fun _ => True) v (l0.take k).flatten ∧ Below w.heap.size w wr) (fun _ i _ => l0.length - (intOf i).toNat)
        case atStart => exact ⟨0, Nat.zero_le _, rfl, Kd.R_of_own (xs := []) hv (fun _ _ => trivial), hb⟩
        case round =>
          obtain ⟨k, hk, rfl, hv, hb⟩ := hrel
          by_cases hlt : k < l0.length
          · obtain ⟨ad, A1, c1, rfl, hcell, hle, hC⟩ := at_L5 (Kd.C_below HR.out hb) (k : Int) (by omega) (by omega)
            rw [Int.toNat_natCast] at hcell
            have HF : Hid ((l0.take (k + 1)).flatten = (l0.take k).flatten ++ rd_L5 l0 (k : Int)) := Lib.hid (by
              rw [flat_take l0 k hlt]; simp [rd_L5])
            have hb1 : ((l0.take k).flatten.length + (rd_L5 l0 (k : Int)).length) * 8 ≤ 140737488355328 := by
              have := flat_le l0 (k + 1); rw [HF.out, List.length_append] at this; have := HL.out; omega
            generalize rd_L5 l0 (k : Int) = row at hcell hle hC HF hb1
            generalize (l0.take k).flatten = acc at hv HF hb1
            have a2 : ∀ k, wr.heap.size ≤ k → True := fun _ _ => trivial
            have a6 : 0 < 8 := by omega
            go_wp2_with (at_builtin; go_loud (refine Kd.R_append_row (Value.int .i64) (0 : Int) (h1 := fun _ => rfl) (w0 := w) w.heap.size rfl _ _ 25 3 (.int .i64 0) 8 rfl Try.underlying25 info3 rfl a6 _ acc row A1 row.length c1 (fun _ => True) rfl rfl a2 hv hC hb hb.size hb1 ?_); go_loud (intro v1 w2 hv1 hb2 hg2 hat2))
            go_roundw
            case rel => exact ⟨k + 1, by omega, by go_num, by rw [HF.out]; exact hv1, hb2⟩
            case measure => simp [intOf]; omega
          · obtain rfl : k = l0.length := by omega
            go_wp2
            go_ret
            rw [List.take_length] at hv
            exact ⟨_, rfl, hv, hb⟩
  · cases h

end Go.Proofs.Ytngglgkemonibaa.P
