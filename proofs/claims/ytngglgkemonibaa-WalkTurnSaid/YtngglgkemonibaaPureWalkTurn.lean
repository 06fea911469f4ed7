/- WalkTurn, the plain law: walk.Turn and the reference's Turn tell the same row. -/
import Derived.Test.YtngglgkemonibaaTurnR
import Derived.Test.YtngglgkemonibaaF5
namespace Go.Proofs.Ytngglgkemonibaa.Pure
open Go.RowKit Go.Proofs.Ytngglgkemonibaa.P Go.Proofs.YtngglgkemonibaaW.PrintWords Go.Proofs.YtngglgkemonibaaW.PrintMore Go.Proofs.YtngglgkemonibaaW.PrintLast
set_option linter.unusedVariables false

theorem turnRow_length (c : List Int) (h : 0 < c.length) : (turnRow c).length = c.length := by
  unfold turnRow
  have := ringOf_length c
  split
  · rw [List.length_append, List.length_take, List.length_reverse, List.length_drop]; omega
  · exact this

theorem WalkTurn : carcanetlaw05_WalkTurn.Pure := by
  intro l0 hmax h8 hwf
  refine ⟨60000, ?_⟩
  unfold carcanetlaw05_WalkTurn.f carcanetlaw05_shown.f
  simp only [Option.bind_some]
  have hm : mn (l0.length : Int) 200 = ((min l0.length 200 : Nat) : Int) := by unfold mn; split <;> omega
  rw [hm, if_pos (by omega), if_pos (by omega), if_pos trivial, Int.toNat_natCast]
  generalize hc : l0.take (min l0.length 200) = c
  have hl : c.length ≤ 200 := by rw [← hc, List.length_take]; omega
  have hmul : c.length * (c.length + 2) ≤ 200 * 202 := Nat.mul_le_mul hl (by omega)
  unfold walk_Turn.f
  rw [if_pos (by omega), refTurn_f c (by omega) _ (by omega)]
  simp only [Option.bind_some]
  have ht : (if c.length < 3 ∨ ¬ c.Nodup then c else turnRow c).length ≤ 200 := by
    split
    · exact hl
    · next h => rw [turnRow_length c (Nat.pos_of_ne_zero fun h0 => h (.inl (by omega)))]; exact hl
  rw [same_f _ (by omega) _ (by omega)]
  rfl

end Go.Proofs.Ytngglgkemonibaa.Pure
