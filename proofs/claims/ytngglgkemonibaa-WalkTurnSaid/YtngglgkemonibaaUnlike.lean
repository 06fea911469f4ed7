/- walk.unlike: no number stands twice. -/
import Derived.Test.YtngglgkemonibaaValues
namespace Go.Proofs.Ytngglgkemonibaa.P
open Go.RowKit Go.Sort Go.Shelf Go.Proofs.YtngglgkemonibaaW.PrintWords
set_option linter.unusedVariables false
set_option linter.unusedSimpArgs false

theorem sortI_perm (l : List Int) : (sortI l).Perm l := List.mergeSort_perm l _
theorem sortI_sorted (l : List Int) : (sortI l).Pairwise (· ≤ ·) := by
  have h := List.pairwise_mergeSort (le := fun x y : Int => decide (x ≤ y)) (fun a b c h k => by simp at *; omega) (fun a b => by simp; omega) l
  exact h.imp (fun h => by simpa using h)

theorem compact_full (zs : List Int) : (Lib.compact zs).length = zs.length ↔ ∀ j, j < zs.length → Lib.keeps zs.toArray j = true := by
  unfold Lib.compact Lib.compactUpTo
  rw [List.length_map]
  constructor
  · intro h j hj
    have h2 : ((List.range zs.length).filter (Lib.keeps zs.toArray)).length = (List.range zs.length).length := by rw [h, List.length_range]
    exact List.length_filter_eq_length_iff.1 h2 j (List.mem_range.2 hj)
  · intro h
    rw [List.filter_eq_self.2 (fun j hj => h j (List.mem_range.1 hj)), List.length_range]

theorem next_lt {zs : List Int} (hs : zs.Pairwise (· ≤ ·)) (h : ∀ j, j < zs.length → Lib.keeps zs.toArray j = true) : zs.Pairwise (· < ·) := by
  rw [List.pairwise_iff_getElem] at hs ⊢
  intro i j hi hj hij
  induction j with
  | zero => omega
  | succ j ih =>
    have h1 := h (j + 1) hj
    have h2 : zs[j + 1] ≠ zs[j] := by
      simp only [Lib.keeps, decide_eq_true_eq] at h1
      rcases h1 with h1 | h1
      · omega
      · simpa [getElem!_pos, hj, (by omega : j < zs.length)] using h1
    have h3 := hs j (j + 1) (by omega) hj (by omega)
    rcases Nat.lt_or_ge i j with hlt | hge
    · have := ih (by omega) hlt; omega
    · obtain rfl : i = j := by omega
      omega

theorem compact_nodup (l : List Int) : (Lib.compact (sortI l)).length = l.length ↔ l.Nodup := by
  rw [← sortI_length l, compact_full]
  constructor
  · intro h
    have := next_lt (sortI_sorted l) h
    refine (sortI_perm l).nodup_iff.1 (this.imp (fun h => by omega))
  · intro h j hj
    have hn := (sortI_perm l).nodup_iff.2 h
    simp only [Lib.keeps, decide_eq_true_eq]
    by_cases h0 : j = 0
    · exact .inl h0
    · refine .inr fun he => ?_
      have h1 : j - 1 < (sortI l).length := by omega
      rw [getElem!_pos _ _ (by simpa using hj), getElem!_pos _ _ (by simpa using h1)] at he
      simp only [List.getElem_toArray] at he
      have := (List.getElem_inj hn).1 he
      omega

theorem grownBy_putRowI {w : World} {g n : Nat} (d : Array Int) : w.grownBy (putRow (Value.int .i64) (Sort.ahead w n) g 0 d) (some g) := by
  refine ⟨rfl, rfl, rfl, by simp [putRow, mapBlock, Sort.ahead], fun k hk hne => ?_⟩
  have : g ≠ k := fun e => hne (by rw [e])
  simp [putRow, mapBlock, Sort.ahead, Array.getElem?_modify, this]

def walk_unlike.f (l0 : List Int) : Option Bool := if l0.length < 17592186044416 then some (decide l0.Nodup) else none

/-- slices.Compact on a row of the call's own: what it hands back has as many as are kept -/
theorem compact_own (v : Value) (zs : List Int) (w0 w : World) (hB : Below w0.heap.size w0 w) (ho0 : Kd.R (Kd.int .i64) 3 w w0.heap.size (fun _ => True) v zs) :
    Calls Try.prog 54 #[v] w fun e w' => ∃ A c, e = .returned (.slice A (Lib.compact zs).length c) ∧ Below w0.heap.size w0 w' := by
  have ho := Kd.own_of_R ho0
  rcases ho.2 with ⟨rfl, hz⟩ | ⟨g, cap, cur, rfl, hbase, hgb, r1, r2, r3, r4⟩
  · have hl : zs = [] := List.eq_nil_of_length_eq_zero hz
    subst hl
    refine (Try.slices_Compact_int_empty none 0 w).mono ?_
    rintro e w' ⟨rfl, rfl⟩
    exact ⟨none, 0, rfl, hB⟩
  · have hH : Holds (Value.int .i64) w g 0 zs.toArray := holds_of_blockI hgb (by simpa [encs] using r4)
    refine (Try.slices_Compact_int g 0 cap zs w hH (by unfold maxLen at r2; omega) r1).mono ?_
    rintro e w' ⟨rfl, q, rfl⟩
    exact ⟨_, _, rfl, hB.grown (grownBy_putRowI _) hB.size (fun k e => by cases e; exact hbase)⟩

set_option maxHeartbeats 2000000 in
theorem walk_unlike.calls (A0 : Option Addr) (c0 : Nat) (l0 : List Int) (r : Bool) (w : World) (hr0 : Kd.C (Kd.int .i64) w A0 l0.length l0) (hc0 : l0.length ≤ c0) (h : walk_unlike.f l0 = some r) :
    Calls Try.prog 33 #[.slice A0 l0.length c0] w fun e w' => e = .returned (.bool r) ∧ Below w.heap.size w w' := by
  unfold walk_unlike.f at h
  split at h
  · next hlim =>
    obtain rfl := Option.some.inj h
    have hmax := hr0.2.1
    have hI : Hid (Ints w.heap.size (w.alloc (.cells #[.slice A0 l0.length c0] 25)) (.slice A0 l0.length c0) l0) := Lib.hid (by
      by_cases hn : 0 < l0.length
      · obtain ⟨b, off, rfl, hc⟩ := C_plain hr0 hn
        refine .inr ⟨b, off, c0, rfl, ?_, fun j hj => ?_⟩
        · exact World.block_lt_of_cell? _ _ (hc 0 hn)
        · have := hc j hj
          rw [List.getD_eq_getElem?_getD] at this
          exact (((Below.refl w.heap.size w).alloc (Nat.le_refl _) _).cell (p := ⟨b, off + j, none⟩) (World.block_lt_of_cell? _ _ this)).trans this
      · have hl : l0 = [] := List.eq_nil_of_length_eq_zero (by omega)
        subst hl
        exact .inl ⟨_, _, rfl, rfl⟩)
    have hseq : Hid (SeqStopsK Fence.wide 4 Try.prog 69 #[.pointer (some ⟨w.heap.size, 0, none⟩)] (fun x : Int => #[Value.int .i64 x]) (Below w.heap.size) (fun ys => ys = l0) (fun pre => pre <+: l0) l0.length (w.alloc (.cells #[.slice A0 l0.length c0] 25))) :=
      Lib.hid (values_stops Fence.wide 4 trivial rfl (by omega) w.heap.size w.heap.size _ l0 hmax _ (by simp) (by simp) ((blk_cell (World.alloc_heap_new w _) 0).trans rfl) hI.out)
    have heg : Hid (∀ args w, (callFunc 69 args).run Try.prog w = .ok (.enter 69 args) w) := Lib.hid (enters_of Try.func69 (by kernel_rfl) rfl)
    have hfin : Hid (decide l0.Nodup = (((Lib.compact (sortI l0)).length : Int) == (l0.length : Int))) := Lib.hid (by
      rw [Bool.eq_iff_iff, decide_eq_true_iff, beq_iff_eq, ← compact_nodup]; omega)
    clear hr0 h
    go_enter Try.func33, Try.ntmps33
    go_wp2_with (first
      | (go_at_call 53; refine (callsIn_wide.1 (values_in Fence.wide 5 trivial rfl _ _ _ _)).mono ?_; rintro e w1 ⟨rfl, rfl⟩)
      | (go_at_call 52; refine (sorted_vals _ _ heg.out w.heap.size l0 hlim _ (by simp) hseq.out).mono ?_; rintro e w1 ⟨v, rfl, hr, hb⟩)
      | (go_at_call 54; refine (compact_own v _ _ w1 hb hr).mono ?_; rintro e w2 ⟨A, c, rfl, hb2⟩))
    go_ret
    refine ⟨?_, ((Below.refl _ w).alloc (Nat.le_refl _) _).trans (hb2.mono (by simp))⟩
    rw [hfin.out]
    rfl
  · cases h

end Go.Proofs.Ytngglgkemonibaa.P
