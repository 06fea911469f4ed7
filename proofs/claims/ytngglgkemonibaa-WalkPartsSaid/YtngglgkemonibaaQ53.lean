/- ON: nets, pairs and edges that a law is handed. -/
import Derived.Test.YtngglgkemonibaaQ52
set_option linter.unusedVariables false
set_option linter.unusedSimpArgs false
set_option linter.unnecessarySimpa false
namespace Go.Proofs.Ytngglgkemonibaa.L
open Go Go.RowKit Go.ChangeShapes Go.WideShapes
set_option maxRecDepth 100000
set_option linter.unusedVariables false
theorem und28' : Try.prog.underlying 28 = some (.struct #[⟨"N", 3, 0, false, "", "", 0⟩, ⟨"E", 22, 1, false, "", "", 8⟩]) := by kernel_rfl
theorem cells28' : Try.prog.cellsOf 28 = 2 := by kernel_rfl
section
variable {H : Type} {enc : TypeId × Value → H} {W : World} {sp : Nat → Bool} {held : Bool} {v : Value} {d : DataW H} {p : List MemPlace}
theorem opened_net (hok : Value.okWide Try.prog W .any 0 28 v) (h : DataW.Trod enc Try.prog W 0 sp held 28 v d p) (hw : ∀ x ∈ d.weights Try.prog 28, x ≤ reachBytes) :
    ∃ (n : Int) (es : List (Int × Int)), Opened W v (gr n es) ∧ es.length ≤ 17592186043904 := by
  simp only [Value.okWide, und28'] at hok
  obtain ⟨cs, rfl, hsz, ts, hts, _, hcells⟩ := hok
  obtain ⟨fuel, hf⟩ := h
  obtain ⟨y0, y1, n, hx, _, t0, t1⟩ := trod_struct2 (f0 := ⟨"N", 3, 0, false, "", "", 0⟩) (f1 := ⟨"E", 22, 1, false, "", "", 8⟩) und28' hf
  rw [cells28'] at hsz
  have hts' : ts = [3, 22] := by
    have : Try.prog.cellTypes Try.prog.depth 28 = some [3, 22] := by kernel_rfl
    rw [this] at hts
    exact (Option.some.inj hts).symm
  subst hts'
  obtain ⟨c0, c1, rfl⟩ : ∃ c0 c1, cs = #[c0, c1] := by
    obtain ⟨l⟩ := cs
    match l, hsz with
    | [c0, c1], _ => exact ⟨c0, c1, rfl⟩
  obtain ⟨z0, rfl⟩ := trod_int3 (u := c0) (by simpa [Value.cells] using t0)
  obtain ⟨u1, hu1, hk1⟩ := hcells 1 c1 rfl
  obtain rfl : u1 = 22 := by simpa using hu1.symm
  simp only [Prod.mk.injEq] at hx
  obtain ⟨c, es, h1, h2, h3, h4, h5, h6⟩ := op_edges hk1 ⟨n, by simpa [Value.cells] using t1⟩ (by
    intro x hxw
    refine hw x ?_
    rw [hx.1]
    simp only [DataW.weights, und28']
    simp only [List.map_cons, List.map_nil, DataW.weightsEach, List.mem_append]
    exact .inr (.inl hxw))
  exact ⟨z0, es, ⟨(.agg, [.sc (.int .i64 z0), c]), by simp [bare, h2, Cell.erase], by show Value.agg #[Value.int .i64 z0, c.val] = _; rw [h1], ⟨rfl, h3, trivial⟩, by simp [footL, foot, h4], by simpa [Cell.isDead] using h5⟩, h6⟩
end
end Go.Proofs.Ytngglgkemonibaa.L
