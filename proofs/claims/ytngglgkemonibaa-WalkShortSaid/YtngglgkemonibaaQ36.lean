/- The library's functions on []int that the program calls, in the print's own words: Min, Max, Clone, Sort. -/
import Derived.Sort.OwnSortedInts
import Derived.Test.YtngglgkemonibaaQ35
import Derived.Test.YtngglgkemonibaaQ29
set_option linter.unusedVariables false
set_option linter.unusedSimpArgs false
set_option linter.unnecessarySimpa false
namespace Go.Proofs.Ytngglgkemonibaa.P
open Go.RowKit Go.Sort Go.Shelf Go.Proofs.YtngglgkemonibaaW.PrintWords
set_option linter.unusedVariables false
set_option linter.unusedSimpArgs false

/-- a row of ints that is read, in the shelf's words -/
theorem C_plain {w : World} {A : Option Addr} {xs : List Int} (h : Kd.C (Kd.int .i64) w A xs.length xs) (hn : 0 < xs.length) :
    ∃ b off, A = some ⟨b, off, none⟩ ∧ ∀ j, j < xs.length → w.cell? ⟨b, off + j, none⟩ = some (.int .i64 (xs.getD j 0)) := by
  obtain ⟨ad, e, hc⟩ := h.2.2 hn
  have key : ∀ j, j < xs.length → w.cell? (ad.add j) = some (.int .i64 (xs.getD j 0)) := by
    intro j hj
    obtain ⟨c, hl, hk, hcell⟩ := hc j _ (List.getElem?_eq_getElem hj)
    have hk' : c = [.int .i64 xs[j]] := hk
    have := hcell 0 _ (by rw [hk']; rfl)
    rw [List.getD_eq_getElem?_getD, List.getElem?_eq_getElem hj]
    simpa [Kd.int, Kd.scalar] using this
  have h0 := key 0 hn
  obtain ⟨b, off, sp⟩ := ad
  obtain rfl : sp = none := by
    cases sp with
    | none => rfl
    | some z => simp [Addr.add, World.cell?] at h0; split at h0 <;> simp at h0
  exact ⟨b, off, e, fun j hj => by have := key j hj; rwa [add_at] at this⟩

def slices_Min_int_int.f (l0 : List Int) : Option Int := if 0 < l0.length then some (Lib.minOf l0) else none
theorem slices_Min_int_int.calls (A0 : Option Addr) (c0 : Nat) (l0 : List Int) (r : Int) (w : World) (hr0 : Kd.C (Kd.int .i64) w A0 l0.length l0) (hc0 : l0.length ≤ c0) (h : slices_Min_int_int.f l0 = some r) :
    Calls Try.prog 36 #[.slice A0 l0.length c0] w fun e w' => e = .returned (.int .i64 r) ∧ Drawn0 w w' := by
  unfold slices_Min_int_int.f at h
  split at h
  · next hn =>
    obtain ⟨b, off, rfl, hc⟩ := C_plain hr0 hn
    refine (Try.slices_Min_int b off l0.length c0 l0 w hn (Nat.le_refl _) hr0.2.1 hc).mono ?_
    rintro e w' ⟨rfl, rfl⟩
    obtain rfl := Option.some.inj h
    exact ⟨by rw [List.take_length], Drawn0.refl _⟩
  · cases h
def slices_Max_int_int.f (l0 : List Int) : Option Int := if 0 < l0.length then some (Lib.maxOf l0) else none
theorem slices_Max_int_int.calls (A0 : Option Addr) (c0 : Nat) (l0 : List Int) (r : Int) (w : World) (hr0 : Kd.C (Kd.int .i64) w A0 l0.length l0) (hc0 : l0.length ≤ c0) (h : slices_Max_int_int.f l0 = some r) :
    Calls Try.prog 37 #[.slice A0 l0.length c0] w fun e w' => e = .returned (.int .i64 r) ∧ Drawn0 w w' := by
  unfold slices_Max_int_int.f at h
  split at h
  · next hn =>
    obtain ⟨b, off, rfl, hc⟩ := C_plain hr0 hn
    refine (Try.slices_Max_int b off l0.length c0 l0 w hn (Nat.le_refl _) hr0.2.1 hc).mono ?_
    rintro e w' ⟨rfl, rfl⟩
    obtain rfl := Option.some.inj h
    exact ⟨by rw [List.take_length], Drawn0.refl _⟩
  · cases h

def slices_Clone_int_int.f (l0 : List Int) : Option (List Int) := if l0.length < 17592186044416 then some l0 else none
theorem slices_Clone_int_int.calls (A0 : Option Addr) (c0 : Nat) (l0 : List Int) (r : List Int) (w : World) (hr0 : Kd.C (Kd.int .i64) w A0 l0.length l0) (hc0 : l0.length ≤ c0) (h : slices_Clone_int_int.f l0 = some r) :
    Calls Try.prog 40 #[.slice A0 l0.length c0] w fun e w' => ∃ v0_ : Value, e = .returned (v0_) ∧ Kd.R (Kd.int .i64) 3 w' w.heap.size (fun _ => True) v0_ r ∧ Below w.heap.size w w' := by
  unfold slices_Clone_int_int.f at h
  split at h
  · next hb =>
    obtain rfl := Option.some.inj h
    by_cases hn : 0 < l0.length
    · obtain ⟨b, off, rfl, hc⟩ := C_plain hr0 hn
      refine (Try.slices_Clone_int b off l0.length c0 l0 w (Nat.le_refl _) (by omega) hc).mono ?_
      rintro e w' ⟨v, rfl, ho, _, hbw⟩
      rw [List.take_length] at ho
      exact ⟨v, rfl, Kd.R_of_own ho (fun _ _ => trivial), hbw⟩
    · have hl : l0 = [] := List.eq_nil_of_length_eq_zero (by omega)
      subst hl
      cases A0 with
      | none =>
        refine (Try.slices_Clone_int_nil 0 c0 w).mono ?_
        rintro e w' ⟨rfl, rfl⟩
        exact ⟨_, rfl, Kd.R_nil _ _ _ _ _, Below.refl _ _⟩
      | some a =>
        refine (Try.slices_Clone_int_zero a c0 w).mono ?_
        rintro e w' ⟨v, rfl, ho, _, hbw⟩
        exact ⟨v, rfl, Kd.R_of_own (xs := []) ho (fun _ _ => trivial), hbw⟩
  · cases h

def sortI (l : List Int) : List Int := l.mergeSort fun x y => decide (x ≤ y)
theorem sortI_length (l : List Int) : (sortI l).length = l.length := List.length_mergeSort l
def slices_Sort_int_int.f (l0 : List Int) : Option (List Int) := if l0.length < 17592186044416 then some (sortI l0) else none
theorem slices_Sort_int_int.calls (P0_ : Nat → Prop) (u9000_ : Value) (l0 : List Int) (r : List Int) (w0 w : World) (hB : Below w0.heap.size w0 w) (ho0 : Kd.R (Kd.int .i64) 3 w w0.heap.size P0_ u9000_ l0) (h : slices_Sort_int_int.f l0 = some r) :
    Calls Try.prog 44 #[u9000_] w fun e w' => e = .returned (.tuple #[]) ∧ Kd.R (Kd.int .i64) 3 w' w0.heap.size (fun k_ => (P0_ k_ ∨ w.heap.size ≤ k_)) u9000_ r ∧ Below w0.heap.size w0 w' ∧ Kept w w' (fun k_ => P0_ k_) := by
  unfold slices_Sort_int_int.f at h
  split at h
  · next hlim =>
    obtain rfl := Option.some.inj h
    have ho := Kd.own_of_R ho0
    rcases ho.2 with ⟨rfl, hz⟩ | ⟨g, cap, cur, rfl, hbase, hgb, r1, r2, r3, r4⟩
    · have hl : l0 = [] := List.eq_nil_of_length_eq_zero hz
      subst hl
      refine (Try.slices_Sort_int_none none 0 w).mono ?_
      rintro e w' ⟨rfl, rfl⟩
      exact ⟨rfl, (by have : sortI [] = [] := List.eq_nil_of_length_eq_zero (sortI_length []); rw [this]; exact Kd.R_nil _ _ _ _ _), hB, Kept.refl _ _⟩
    · have hH : Holds (Value.int .i64) w g 0 l0.toArray := holds_of_blockI hgb (by simpa [encs] using r4)
      have hgl : g < w.heap.size := (Array.getElem?_eq_some_iff.1 hgb).1
      refine (Try.slices_Sort_int g 0 cap l0 w hH hgl (by omega)).mono ?_
      rintro e w' ⟨rfl, n, os, rfl⟩
      have hg := grownBy_sortedI (w := w) (g := g) (n := n) (os := os) (sortI l0).toArray
      have hP : P0_ g := ho0.1 g (by simp [Value.ownBlock])
      refine ⟨rfl, Kd.R_of_own ?_ (fun k hk => .inl (ho0.1 k hk)), hB.grown hg hB.size (fun k e => by cases e; exact hbase), Kept.of_grown hg (Kept.refl _ _) (fun k e => by cases e; exact .inl hP)⟩
      have := ownsRow_sortedI (n := n) (os := os) (ss := l0) (ts := sortI l0) (sortI_length l0) hbase hgb r1 r2 r3
      rw [sortI_length]
      exact this
  · cases h

end Go.Proofs.Ytngglgkemonibaa.P
