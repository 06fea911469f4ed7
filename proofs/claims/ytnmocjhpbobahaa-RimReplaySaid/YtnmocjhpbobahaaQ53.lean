/- OT: traces and cuts that a law is handed. -/
import Derived.Test.YtnmocjhpbobahaaQ52
import Derived.Test.YtnmocjhpbobahaaQ8
import Derived.Deep.Slices
set_option linter.unusedVariables false
set_option linter.unusedSimpArgs false
set_option linter.unnecessarySimpa false
namespace Go.Proofs.Ytnmocjhpbobahaa.L
open Go Go.RowKit Go.ChangeShapes Go.WideShapes
set_option maxRecDepth 100000
set_option linter.unusedVariables false
def GC6 : List Cu → List GC
  | [] => []
  | e :: l => .sc (.int .i64 e.1) :: .sc (.int .i64 e.2.1) :: .sc (.int .i64 e.2.2.1) :: .sc (.int .i64 e.2.2.2.1) :: .sc (.int .i64 e.2.2.2.2.1) :: .sc (.int .i64 e.2.2.2.2.2) :: GC6 l
theorem GC6_erase (l : List Cu) : eraseL (GC6 l) = CL l := by
  induction l with
  | nil => rfl
  | cons x l ih => simp only [GC6, eraseL, Cell.erase, ih, CL]
theorem GC6_holds (W : World) (n : Zn) (l : List Cu) : holdsL W n (GC6 l) := by
  induction l with
  | nil => trivial
  | cons x l ih => exact ⟨rfl, rfl, rfl, rfl, rfl, rfl, ih⟩
theorem GC6_foot (l : List Cu) : footL (GC6 l) = [] := by
  induction l with
  | nil => rfl
  | cons x l ih => simp only [GC6, footL, foot, List.nil_append, ih]
theorem GC6_len (l : List Cu) : (GC6 l).length = l.length * 6 := by
  induction l with
  | nil => rfl
  | cons x l ih => simp only [GC6, List.length_cons, ih]; omega
def cuI (e : Cu) : Nat → Int
  | 0 => e.1 | 1 => e.2.1 | 2 => e.2.2.1 | 3 => e.2.2.2.1 | 4 => e.2.2.2.2.1 | _ => e.2.2.2.2.2
theorem GC6_get : ∀ (l : List Cu) (i : Nat) (c : GC), (GC6 l)[i]? = some c → ∃ (j k : Nat) (e : Cu), k < 6 ∧ l[j]? = some e ∧ i = j * 6 + k ∧ c = .sc (.int .i64 (cuI e k))
  | [], i, c, h => by simp [GC6] at h
  | e :: l, i, c, h => by
    match i, h with
    | 0, h => exact ⟨0, 0, e, by omega, rfl, rfl, by simpa [GC6, cuI] using h.symm⟩
    | 1, h => exact ⟨0, 1, e, by omega, rfl, rfl, by simpa [GC6, cuI] using h.symm⟩
    | 2, h => exact ⟨0, 2, e, by omega, rfl, rfl, by simpa [GC6, cuI] using h.symm⟩
    | 3, h => exact ⟨0, 3, e, by omega, rfl, rfl, by simpa [GC6, cuI] using h.symm⟩
    | 4, h => exact ⟨0, 4, e, by omega, rfl, rfl, by simpa [GC6, cuI] using h.symm⟩
    | 5, h => exact ⟨0, 5, e, by omega, rfl, rfl, by simpa [GC6, cuI] using h.symm⟩
    | i + 6, h =>
      obtain ⟨j, k, e', h1, h2, h3, h4⟩ := GC6_get l i c (by simpa [GC6] using h)
      exact ⟨j + 1, k, e', h1, by simpa using h2, by omega, h4⟩
section
variable {H : Type} {enc : TypeId × Value → H} {W : World} {sp : Nat → Bool} {held : Bool} {v : Value} {d : DataW H} {p : List MemPlace}
theorem op_cuts {b0 : Nat} (hok : Cell.okWide Try.prog W .any b0 29 v) (h : ∃ n, DataW.trod enc Try.prog W 0 sp held n 29 [v] = some (d, p)) (hw : ∀ x ∈ d.weights Try.prog 29, x ≤ reachBytes) :
    ∃ (c : GC) (l : List Cu), c.val = v ∧ c.erase = .sl false 6 () (CL l) ∧ holds W ⟨W.heap.size, []⟩ c ∧ foot c = [] ∧ c.isDead = false ∧ l.length ≤ 17592186043904 := by
  obtain ⟨fuel, hf⟩ := h
  rcases Go.Deep.open_slice ref20_undS hf with ⟨hcs, _⟩ | ⟨a, len, cap, m, n, D, Pl, hcs, hb, hl, hm, hmm, hx, hcell⟩
  · obtain rfl : v = .slice none 0 0 := by simpa using hcs
    exact ⟨.sl false 6 ⟨none, 0⟩ [], [], rfl, rfl, ⟨⟨by decide, rfl, by decide, by simp [footL]⟩, ⟨rfl, rfl⟩, trivial⟩, rfl, rfl, by simp⟩
  · obtain rfl : v = .slice (some a) len cap := by simpa using hcs
    have hlm : len ≤ m := by rw [hmm]; split <;> omega
    have each : ∀ i, i < m → ∃ e : Cu, ∀ k, k < 6 → W.cell? (a.add (i * 6 + k)) = some (.int .i64 (cuI e k)) := by
      intro i hi
      obtain ⟨cs', h1, h2⟩ := hcell i hi
      rw [ref20_cellsC] at h1
      obtain ⟨_, hlen, hc⟩ := World.cells?_some h1
      obtain ⟨xs, k, hk, hxy, _, hxl, hfd⟩ := DataW.trod_struct ref20_undC h2
      match xs, hxl, cs', hlen with
      | [y0, y1, y2, y3, y4, y5], _, [v0, v1, v2, v3, v4, v5], _ =>
        have g0 := hfd 0 _ rfl
        have g1 := hfd 1 _ rfl
        have g2 := hfd 2 _ rfl
        have g3 := hfd 3 _ rfl
        have g4 := hfd 4 _ rfl
        have g5 := hfd 5 _ rfl
        simp at g0 g1 g2 g3 g4 g5
        obtain ⟨z0, rfl⟩ := trod_int3 g0
        obtain ⟨z1, rfl⟩ := trod_int3 g1
        obtain ⟨z2, rfl⟩ := trod_int3 g2
        obtain ⟨z3, rfl⟩ := trod_int3 g3
        obtain ⟨z4, rfl⟩ := trod_int3 g4
        obtain ⟨z5, rfl⟩ := trod_int3 g5
        refine ⟨(z0, z1, z2, z3, z4, z5), ?_⟩
        intro k hk
        have e := hc k (by omega)
        rw [Go.Deep.add_add] at e
        match k, hk with
        | 0, _ => simpa [cuI] using e
        | 1, _ => simpa [cuI] using e
        | 2, _ => simpa [cuI] using e
        | 3, _ => simpa [cuI] using e
        | 4, _ => simpa [cuI] using e
        | 5, _ => simpa [cuI] using e
    obtain ⟨q, hq⟩ := Go.Deep.choose_lt each
    let l : List Cu := (List.range len).map q
    have hll : l.length = len := by show (List.map _ (List.range len)).length = len; rw [List.length_map, List.length_range]
    have hget : ∀ j e, l[j]? = some e → j < len ∧ e = q j := by
      intro j e hj
      have hjl : j < len := by rw [← hll]; exact (List.getElem?_eq_some_iff.1 hj).1
      simp only [l, List.getElem?_map, List.getElem?_range hjl, Option.map_some, Option.some.injEq] at hj
      exact ⟨hjl, hj.symm⟩
    refine ⟨.sl false 6 ⟨some a, cap⟩ (GC6 l), l, ?_, ?_, ⟨⟨by decide, by rw [GC6_len, hll]; omega, by rw [GC6_len, hll]; show len * 6 / 6 ≤ cap; omega, fun _ => GC6_foot l⟩, ⟨fun _ => ok_spot ref20_undS hok, ?_, ?_⟩, GC6_holds _ _ l⟩, ?_, rfl, ?_⟩
    · simp [Cell.val, GC6_len, hll]
    · simp only [Cell.erase, GC6_erase]
    · intro i c hi
      obtain ⟨j, k, e, hk, h1, rfl, rfl⟩ := GC6_get l i c hi
      obtain ⟨hj, rfl⟩ := hget j e h1
      exact ⟨_, hq j (by omega) k hk, .inr rfl⟩
    · simp only [Bool.false_eq_true, if_false]
      intro hne
      have hl0 : 0 < len := by
        rw [← hll]
        cases hc : l with
        | nil => rw [hc] at hne; exact absurd rfl hne
        | cons _ _ => simp
      exact notin (World.block_lt_of_cell? _ _ (hq 0 (by omega) 0 (by omega)))
    · simp [foot, blockOf, GC6_foot]
    · rw [hll]
      simp only [Prod.mk.injEq] at hx
      rw [hx.1] at hw
      have := hw _ (by simp only [DataW.weights, ref20_undS]; exact List.mem_cons_self)
      rw [List.length_map, List.length_map, List.length_range, List.length_range] at this
      simp only [show Try.prog.bytesOf 62 = 48 by kernel_rfl, reachBytes] at this
      omega
theorem opened_cuts (hok : Value.okWide Try.prog W .any 0 29 v) (h : DataW.Trod enc Try.prog W 0 sp held 29 v d p) (hw : ∀ x ∈ d.weights Try.prog 29, x ≤ reachBytes) :
    ∃ l : List Cu, Opened W v (cuts l) ∧ l.length ≤ 17592186043904 := by
  obtain ⟨a0, len, cap, rfl⟩ := okWide_slice ref20_undS hok
  have hok' : Cell.okWide Try.prog W .any 0 29 (.slice a0 len cap) := by simpa only [Value.okWide, ref20_undS] using hok
  obtain ⟨c, l, h1, h2, h3, h4, h5, h6⟩ := op_cuts (v := .slice a0 len cap) hok' h hw
  exact ⟨l, ⟨(.one, [c]), by simp [bare, h2], by simp [pack, h1], ⟨h3, trivial⟩, by simp [footL, h4], by simpa using h5⟩, h6⟩
end
end Go.Proofs.Ytnmocjhpbobahaa.L
