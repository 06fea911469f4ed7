/- O: what a law is handed, as trees. ON: nets, pairs and edges that a law is handed. -/
import Derived.Test.YtnmocjhpbobahaaQ8
import Derived.WideShapes
import Derived.ChangeSlices
import Derived.Deep.SlicePairs
import Derived.Deep.Matrix
import Derived.SizedLaws
set_option linter.unusedVariables false
set_option linter.unusedSimpArgs false
set_option linter.unnecessarySimpa false
namespace Go.Proofs.Ytnmocjhpbobahaa.L
open Go Go.RowKit Go.ChangeShapes Go.WideShapes
set_option maxRecDepth 100000
set_option linter.unusedVariables false
theorem notin {W : World} {a : Addr} {i : Nat} (h : (a.add i).block < W.heap.size) : ¬ (⟨W.heap.size, []⟩ : Zn).has a.block := by
  have e : (a.add i).block = a.block := by unfold Addr.add; split <;> rfl
  rw [e] at h
  rintro (h2 | h2)
  · simp only at h2; omega
  · cases h2
def Opened (W : World) (v : Value) (u : SV Unit) : Prop := ∃ g : Kd × List GC, bare g.1 g.2 = u ∧ pack g.1 (g.2.map Cell.val) = v ∧ holdsL W ⟨W.heap.size, []⟩ g.2 ∧ footL g.2 = [] ∧ ∀ c ∈ g.2, c.isDead = false
def OpenedL (W : World) : List Value → List (SV Unit) → Prop
  | [], [] => True
  | v :: vs, u :: us => Opened W v u ∧ OpenedL W vs us
  | _, _ => False
theorem openedL_gs {W : World} : ∀ {vs : List Value} {us : List (SV Unit)}, OpenedL W vs us → ∃ gs : List (Kd × List GC), gs.map (fun g => bare g.1 g.2) = us ∧ gs.map (fun g => pack g.1 (g.2.map Cell.val)) = vs ∧ ∀ g ∈ gs, holdsL W ⟨W.heap.size, []⟩ g.2 ∧ footL g.2 = [] ∧ ∀ c ∈ g.2, c.isDead = false
  | [], [], _ => ⟨[], rfl, rfl, by simp⟩
  | v :: vs, u :: us, h => by
    obtain ⟨⟨g, h1, h2, h3⟩, h4⟩ := h
    obtain ⟨gs, e1, e2, e3⟩ := openedL_gs h4
    refine ⟨g :: gs, by simp [h1, e1], by simp [h2, e2], ?_⟩
    intro x hx
    rcases List.mem_cons.1 hx with rfl | hx
    · exact h3
    · exact e3 x hx
theorem good_true {f : FuncId} {us : List (SV Unit)} (hG : Good Try.prog f us (bv true)) {W : World} {args : Array Value} (ho : OpenedL W args.toList us) : Calls Try.prog f args W fun e w' => e = .returned (.bool true) ∧ Below W.heap.size W w' := by
  obtain ⟨gs, h1, h2, h3⟩ := openedL_gs ho
  have := hG.2 W gs h1 h3
  rw [h2] at this
  rw [Array.toArray_toList] at this
  refine this.mono ?_
  rintro e w' ⟨k, cs, hb, he, hB, _⟩
  refine ⟨?_, hB⟩
  rw [he]
  simp only [bare, SV.mk.injEq] at hb
  obtain ⟨rfl, hb⟩ := hb
  cases cs with
  | nil => cases hb
  | cons c cs =>
    cases cs with
    | cons _ _ => simp at hb
    | nil =>
      simp only [List.map_cons, List.map_nil, List.cons.injEq, SC.c.injEq, and_true] at hb
      cases c <;> simp_all [Cell.erase]
      rfl
/-! ### rows of numbers -/
section
variable {H : Type} {enc : TypeId × Value → H} {W : World} {sp : Nat → Bool} {held : Bool} {v : Value} {d : DataW H} {p : List MemPlace}
theorem ok_spot {b0 : Nat} {t e : TypeId} {a : Addr} {len cap : Nat} (ht : Try.prog.underlying t = some (.slice e)) (h : Cell.okWide Try.prog W .any b0 t (.slice (some a) len cap)) : a.spot = none := by
  simp only [Cell.okWide, ht, Cell.ok] at h
  exact h.2.2.2.1
/-! ### edges, graphs -/
def GE : List (Int × Int) → List GC
  | [] => []
  | e :: l => .sc (.int .i64 e.1) :: .sc (.int .i64 e.2) :: GE l
theorem GE_erase (l : List (Int × Int)) : eraseL (GE l) = EL l := by
  induction l with
  | nil => rfl
  | cons x l ih => simp only [GE, eraseL, Cell.erase, ih, EL]
theorem GE_holds (W : World) (n : Zn) (l : List (Int × Int)) : holdsL W n (GE l) := by
  induction l with
  | nil => trivial
  | cons x l ih => exact ⟨rfl, rfl, ih⟩
theorem GE_foot (l : List (Int × Int)) : footL (GE l) = [] := by
  induction l with
  | nil => rfl
  | cons x l ih => simp only [GE, footL, foot, ih]; rfl
theorem GE_len (l : List (Int × Int)) : (GE l).length = l.length * 2 := by
  induction l with
  | nil => rfl
  | cons x l ih => simp only [GE, List.length_cons, ih]; omega
theorem GE_get : ∀ (l : List (Int × Int)) (i : Nat) (c : GC), (GE l)[i]? = some c → ∃ (j : Nat) (e : Int × Int), l[j]? = some e ∧ ((i = j * 2 ∧ c = .sc (.int .i64 e.1)) ∨ (i = j * 2 + 1 ∧ c = .sc (.int .i64 e.2)))
  | [], i, c, h => by simp [GE] at h
  | e :: l, 0, c, h => by simp only [GE, List.getElem?_cons_zero, Option.some.injEq] at h; exact ⟨0, e, rfl, .inl ⟨rfl, h.symm⟩⟩
  | e :: l, 1, c, h => by simp only [GE, List.getElem?_cons_succ, List.getElem?_cons_zero, Option.some.injEq] at h; exact ⟨0, e, rfl, .inr ⟨rfl, h.symm⟩⟩
  | e :: l, i + 2, c, h => by
    obtain ⟨j, e', h1, h2⟩ := GE_get l i c (by simpa [GE] using h)
    refine ⟨j + 1, e', h1, ?_⟩
    rcases h2 with ⟨h2, h3⟩ | ⟨h2, h3⟩
    · exact .inl ⟨by omega, h3⟩
    · exact .inr ⟨by omega, h3⟩
theorem trod_int3 {n : Nat} {u : Value} {x : DataW H × List MemPlace} (h : DataW.trod enc Try.prog W 0 sp held n 3 [u] = some x) : ∃ z, u = .int .i64 z := by
  cases n with
  | zero => simp [DataW.trod] at h
  | succ n =>
    unfold DataW.trod at h
    rw [Try.underlying3] at h
    split at h <;> simp_all
def izOf : Value → Int
  | .int _ z => z
  | _ => 0
theorem op_edges {b0 : Nat} (hok : Cell.okWide Try.prog W .any b0 22 v) (h : ∃ n, DataW.trod enc Try.prog W 0 sp held n 22 [v] = some (d, p)) (hw : ∀ x ∈ d.weights Try.prog 22, x ≤ reachBytes) :
    ∃ (c : GC) (l : List (Int × Int)), c.val = v ∧ c.erase = .sl false 2 () (EL l) ∧ holds W ⟨W.heap.size, []⟩ c ∧ foot c = [] ∧ c.isDead = false ∧ l.length ≤ 17592186043904 := by
  obtain ⟨fuel, hf⟩ := h
  rcases Go.Deep.open_slice_pairs (f0 := ⟨"A", 3, 0, false, "", "", 0⟩) (f1 := ⟨"B", 3, 1, false, "", "", 8⟩) und22 und46 cells46 rfl rfl cells3 cells3 hf with ⟨hcs, _⟩ | ⟨a, len, cap, m, n, V0, V1, D0, D1, P0, P1, hcs, _, hl, hm, hmm, hx, hcell⟩
  · obtain rfl : v = .slice none 0 0 := by simpa using hcs
    exact ⟨.sl false 2 ⟨none, 0⟩ [], [], rfl, rfl, ⟨⟨by decide, rfl, by decide, by simp [footL]⟩, ⟨rfl, rfl⟩, trivial⟩, rfl, rfl, by simp⟩
  · obtain rfl : v = .slice (some a) len cap := by simpa using hcs
    have hlm : len ≤ m := by rw [hmm]; split <;> omega
    let l : List (Int × Int) := (List.range len).map fun i => (izOf (V0 i), izOf (V1 i))
    have hll : l.length = len := by show (List.map _ (List.range len)).length = len; rw [List.length_map, List.length_range]
    have hget : ∀ j e, l[j]? = some e → j < len ∧ V0 j = .int .i64 e.1 ∧ V1 j = .int .i64 e.2 := by
      intro j e hj
      have hjl : j < len := by rw [← hll]; exact (List.getElem?_eq_some_iff.1 hj).1
      simp only [l, List.getElem?_map, List.getElem?_range hjl, Option.map_some, Option.some.injEq] at hj
      obtain ⟨_, _, t0, t1⟩ := hcell j (by omega)
      obtain ⟨z0, e0⟩ := trod_int3 t0
      obtain ⟨z1, e1⟩ := trod_int3 t1
      rw [e0, e1] at hj ⊢
      subst hj
      exact ⟨hjl, rfl, rfl⟩
    refine ⟨.sl false 2 ⟨some a, cap⟩ (GE l), l, ?_, ?_, ⟨⟨by decide, by rw [GE_len, hll]; omega, by rw [GE_len, hll]; show len * 2 / 2 ≤ cap; omega, fun _ => GE_foot l⟩, ⟨fun _ => ok_spot und22 hok, ?_, ?_⟩, GE_holds _ _ l⟩, ?_, rfl, ?_⟩
    · simp [Cell.val, GE_len, hll]
    · simp only [Cell.erase, GE_erase]
    · intro i c hi
      obtain ⟨j, e, h1, h2⟩ := GE_get l i c hi
      obtain ⟨hj, v0, v1⟩ := hget j e h1
      obtain ⟨c0, c1, _, _⟩ := hcell j (by omega)
      rcases h2 with ⟨rfl, rfl⟩ | ⟨rfl, rfl⟩
      · exact ⟨_, c0, .inr v0⟩
      · exact ⟨_, c1, .inr v1⟩
    · simp only [Bool.false_eq_true, if_false]
      intro hne
      have hl0 : 0 < len := by
        rw [← hll]
        cases hc : l with
        | nil => rw [hc] at hne; exact absurd rfl hne
        | cons _ _ => simp
      have := World.block_lt_of_cell? _ _ (hcell 0 (by omega)).1
      exact notin this
    · simp [foot, blockOf, GE_foot]
    · rw [hll]
      simp only [Prod.mk.injEq] at hx
      rw [hx.1] at hw
      have := hw _ (by simp only [DataW.weights, und22]; exact List.mem_cons_self)
      rw [List.length_map, List.length_map, List.length_range, List.length_range] at this
      simp only [show Try.prog.bytesOf 57 = 16 by kernel_rfl, reachBytes] at this
      omega
end
end Go.Proofs.Ytnmocjhpbobahaa.L
namespace Go.Proofs.Ytnmocjhpbobahaa.L
open Go Go.RowKit Go.ChangeShapes Go.WideShapes
set_option maxRecDepth 100000
set_option linter.unusedVariables false
theorem und28' : Try.prog.underlying 24 = some (.struct #[⟨"N", 3, 0, false, "", "", 0⟩, ⟨"E", 22, 1, false, "", "", 8⟩]) := by kernel_rfl
theorem cells28' : Try.prog.cellsOf 24 = 2 := by kernel_rfl
section
variable {H : Type} {enc : TypeId × Value → H} {W : World} {sp : Nat → Bool} {held : Bool} {v : Value} {d : DataW H} {p : List MemPlace}
theorem opened_net (hok : Value.okWide Try.prog W .any 0 24 v) (h : DataW.Trod enc Try.prog W 0 sp held 24 v d p) (hw : ∀ x ∈ d.weights Try.prog 24, x ≤ reachBytes) :
    ∃ (n : Int) (es : List (Int × Int)), Opened W v (gr n es) ∧ es.length ≤ 17592186043904 := by
  simp only [Value.okWide, und28'] at hok
  obtain ⟨cs, rfl, hsz, ts, hts, _, hcells⟩ := hok
  obtain ⟨fuel, hf⟩ := h
  obtain ⟨y0, y1, n, hx, _, t0, t1⟩ := trod_struct2 (f0 := ⟨"N", 3, 0, false, "", "", 0⟩) (f1 := ⟨"E", 22, 1, false, "", "", 8⟩) und28' hf
  rw [cells28'] at hsz
  have hts' : ts = [3, 22] := by
    have : Try.prog.cellTypes Try.prog.depth 24 = some [3, 22] := by kernel_rfl
    rw [this] at hts
    exact (Option.some.inj hts).symm
  subst hts'
  obtain ⟨c0, c1, rfl⟩ : ∃ c0 c1, cs = #[c0, c1] := by
    obtain ⟨l⟩ := cs
    match l, hsz with
    | [c0, c1], _ => exact ⟨c0, c1, rfl⟩
  obtain ⟨z0, rfl⟩ := trod_int3 (u := c0) (by simpa [Value.cells] using t0)
  obtain ⟨u1, hu1, hk1⟩ := hcells 1 c1 rfl
  obtain rfl : u1 = 22 := by simpa using hu1.symm
  simp only [Prod.mk.injEq] at hx
  obtain ⟨c, es, h1, h2, h3, h4, h5, h6⟩ := op_edges hk1 ⟨n, by simpa [Value.cells] using t1⟩ (by
    intro x hxw
    refine hw x ?_
    rw [hx.1]
    simp only [DataW.weights, und28']
    simp only [List.map_cons, List.map_nil, DataW.weightsEach, List.mem_append]
    exact .inr (.inl hxw))
  exact ⟨z0, es, ⟨(.agg, [.sc (.int .i64 z0), c]), by simp [bare, h2, Cell.erase], by show Value.agg #[Value.int .i64 z0, c.val] = _; rw [h1], ⟨rfl, h3, trivial⟩, by simp [footL, foot, h4], by simpa [Cell.isDead] using h5⟩, h6⟩
end
end Go.Proofs.Ytnmocjhpbobahaa.L
