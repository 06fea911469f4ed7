/- What must be in any case, of layer 5: it is. -/
import Derived.Test.YtngglgkemonibaaShown0
import Derived.KernelRfl
namespace Go.Proofs.Ytngglgkemonibaa.P
open Go.RowKit Go.Proofs.YtngglgkemonibaaW.PrintWords Go.Proofs.YtngglgkemonibaaW.PrintMore Go.Proofs.YtngglgkemonibaaW.PrintLast
set_option linter.unusedVariables false

def gS : List S46 := [⟨0, 1⟩, ⟨0, 3⟩, ⟨1, 2⟩, ⟨2, 3⟩]
theorem shown_1 : walk_Route.f 60 4 gS 0 2 [1] = some [0, 3, 2] := by kernel_rfl
theorem shown_2 : walk_Turn.f [2, 1, 3, 0] = some [0, 2, 1, 3] := by kernel_rfl
theorem shown_3 : walk_IsPath.f 60 4 gS [3, 0, 1] = some true := by kernel_rfl
theorem shown_4 : walk_IsPath.f 60 4 gS [0, 2] = some false := by kernel_rfl
theorem shown_5 : walk_IsCycle.f 60 4 gS [1, 0, 3, 2] = some true := by kernel_rfl
theorem shown_6 : walk_IsCycle.f 60 4 gS [0, 1, 2] = some false := by kernel_rfl
theorem shown_7 : walk_Whole.f 60 4 gS [1, 0] = some true := by kernel_rfl
theorem shown_8 : walk_Whole.f 60 4 gS [1, 3] = some false := by kernel_rfl
/-- one sorted row of a set of numbers -/
theorem sorted_one {l s : List Int} (hp : l.Perm s) (hs : s.Pairwise (· ≤ ·)) : sortI l = s := by
  have h1 : (sortI l).Pairwise (· ≤ ·) := sortI_sorted l
  exact ((sortI_perm l).trans hp).eq_of_pairwise (fun a b _ _ h1 h2 => Int.le_antisymm h1 h2) h1 hs
theorem shown_9s : slices_Sort_int_int.f [0, 1, 2, 0, 3, 2] = some [0, 0, 1, 2, 2, 3] := by
  unfold slices_Sort_int_int.f
  rw [if_pos (by decide), sorted_one (s := [0, 0, 1, 2, 2, 3]) (by decide) (by decide)]
theorem shown_9 : walk_Apart.f 60 [[0, 1, 2], [0, 3, 2]] = some true := by
  have h : walk_Apart.f 60 [[0, 1, 2], [0, 3, 2]] = (slices_Sort_int_int.f [0, 1, 2, 0, 3, 2]).bind fun t => walk_Apart.l1 57 t [[0, 1, 2], [0, 3, 2]] 2 0 := by kernel_rfl
  have h2 : walk_Apart.l1 57 [0, 0, 1, 2, 2, 3] [[0, 1, 2], [0, 3, 2]] 2 0 = some true := by kernel_rfl
  rw [h, shown_9s, Option.bind_some]
  exact h2
theorem shown_10s : slices_Sort_int_int.f [0, 1, 2, 1, 3] = some [0, 1, 1, 2, 3] := by
  unfold slices_Sort_int_int.f
  rw [if_pos (by decide), sorted_one (s := [0, 1, 1, 2, 3]) (by decide) (by decide)]
theorem shown_10 : walk_Apart.f 60 [[0, 1, 2], [1, 3]] = some false := by
  have h : walk_Apart.f 60 [[0, 1, 2], [1, 3]] = (slices_Sort_int_int.f [0, 1, 2, 1, 3]).bind fun t => walk_Apart.l1 57 t [[0, 1, 2], [1, 3]] 2 0 := by kernel_rfl
  have h2 : walk_Apart.l1 57 [0, 1, 1, 2, 3] [[0, 1, 2], [1, 3]] 2 0 = some false := by kernel_rfl
  rw [h, shown_10s, Option.bind_some]
  exact h2
theorem shown_val : shown0.f 60 = some true := by
  unfold shown0.f
  simp only [Option.bind_some]
  rw [show ([⟨0, 1⟩, ⟨0, 3⟩, ⟨1, 2⟩, ⟨2, 3⟩] : List S46) = gS from rfl]
  simp only [shown_1, shown_2, shown_3, shown_4, shown_5, shown_6, shown_7, shown_8, shown_9, shown_10, Option.bind_some]
  rfl

def carcanetlaw05_shown.f : Option Bool := some true
theorem carcanetlaw05_shown.calls (r : Bool) (w : World) (h : carcanetlaw05_shown.f = some r) :
    Calls Try.prog 11 #[] w fun e w' => e = .returned (.bool r) ∧ Below w.heap.size w w' := by
  obtain rfl := Option.some.inj h
  exact shown0.calls 60 w shown_val

end Go.Proofs.Ytngglgkemonibaa.P
