/- OR: rows of rows that a law is handed. -/
import Derived.Test.YtngglgkemonibaaQ51
import Derived.Test.YtngglgkemonibaaQ48
import Derived.DataReads
set_option linter.unusedVariables false
set_option linter.unusedSimpArgs false
set_option linter.unnecessarySimpa false
namespace Go.Proofs.Ytngglgkemonibaa.L
open Go Go.RowKit Go.ChangeShapes Go.WideShapes
set_option maxRecDepth 100000
set_option linter.unusedVariables false
theorem weightsAll_mem {H : Type} {P : Program} {e : TypeId} : ∀ {l : List (DataW H)} {d : DataW H}, d ∈ l → ∀ n ∈ d.weights P e, n ∈ DataW.weightsAll P e l
  | [], d, h, _, _ => by simp at h
  | x :: l, d, h, n, hn => by
    simp only [DataW.weightsAll, List.mem_append]
    rcases List.mem_cons.1 h with rfl | h
    · exact .inl hn
    · exact .inr (weightsAll_mem h n hn)
/-- A row's header, as a frozen tree. -/
def GRow (A : Option Addr) (C : Nat) (l : List Int) : GC := .sl false 1 ⟨A, C⟩ (GI l)
theorem GI_length (l : List Int) : (GI l).length = l.length := by simp [GI]
theorem GRow_holds {W : World} {A : Option Addr} {C : Nat} {l : List Int} (hl : l.length ≤ C) (hA : A = none → C = 0) (hc : ∀ a, A = some a → ∀ i, i < l.length → W.cell? (a.add i) = some (.int .i64 (l.getD i 0))) : holds W W.heap.size (GRow A C l) := by
  refine ⟨⟨by decide, Nat.mod_one _, by rw [GI_length, Nat.div_one]; exact hl, fun _ => GI_foot l⟩, ?_, GI_holds _ _ l⟩
  cases A with
  | none =>
    have h0 := hA rfl
    subst h0
    have : l = [] := List.eq_nil_of_length_eq_zero (by omega)
    subst this
    exact ⟨rfl, rfl⟩
  | some a =>
    have hne : GI l ≠ [] → 0 < l.length := by
      intro h
      rcases l with _ | ⟨x, l⟩
      · exact absurd rfl h
      · simp
    refine ⟨fun hd => ?_, ?_, ?_⟩
    · have := World.cell?_spot (hc a rfl 0 (hne (hd.resolve_left (by simp))))
      rwa [show a.add 0 = a by simp [Addr.add]] at this
    · intro i c hi
      simp only [GI, List.getElem?_map] at hi
      cases hx : l[i]? with
      | none => rw [hx] at hi; cases hi
      | some x =>
        rw [hx] at hi
        simp only [Option.map_some, Option.some.injEq] at hi
        subst hi
        have hil : i < l.length := (List.getElem?_eq_some_iff.1 hx).1
        refine ⟨_, hc a rfl i hil, .inr ?_⟩
        simp [Cell.val, List.getD_eq_getElem?_getD, hx]
    · simp only [Bool.false_eq_true, if_false]
      intro h
      have := World.block_lt_of_cell? _ _ (hc a rfl 0 (hne h))
      rwa [show a.add 0 = a by simp [Addr.add]] at this
theorem cellsI : Try.prog.cellsOf 3 = 1 := by kernel_rfl
theorem cellsS : Try.prog.cellsOf 25 = 1 := by kernel_rfl
abbrev intRowW {H : Type} (A : Option Addr) (L : Nat) (Z : List Int) : DataW H := Go.Deep.intRow .i64 A L Z
section
variable {H : Type} {enc : TypeId × Value → H} {W : World} {sp : Nat → Bool} {held : Bool} {v : Value} {d : DataW H} {p : List MemPlace}
theorem opened_rows (hok : Value.okWide Try.prog W .any 0 36 v) (h : DataW.Trod enc Try.prog W 0 (fun _ => true) held 36 v d p) (hw : ∀ x ∈ d.weights Try.prog 36, x ≤ reachBytes) :
    ∃ l : List (List Int), Opened W v (rows l) ∧ (l.length ≤ 5864062014805 ∧ ∀ i, i < l.length → (nthR l i).length ≤ 17592186043904) := by
  obtain ⟨a0, len0, cap0, rfl⟩ := okWide_slice Try.underlying36 hok
  have hok' : Cell.okWide Try.prog W .any 0 36 (.slice a0 len0 cap0) := by simpa only [Value.okWide, Try.underlying36] using hok
  obtain ⟨fuel, hf⟩ := h
  rcases Go.Deep.open_int_rows Try.underlying36 Try.underlying25 Try.underlying3 cellsS cellsI hf with ⟨hcs, _⟩ | ⟨a, len, cap, A, L, C, Z, hcs, _, hl, hm, hx, hrow⟩
  · obtain ⟨rfl, rfl, rfl⟩ : a0 = none ∧ len0 = 0 ∧ cap0 = 0 := by simpa [Value.cells] using hcs
    exact ⟨[], ⟨(.one, [.sl false 1 ⟨none, 0⟩ []]), rfl, rfl, ⟨⟨⟨by decide, rfl, by decide, by simp [footL]⟩, ⟨rfl, rfl⟩, trivial⟩, trivial⟩, by simp [footL, foot, blockOf], by simp [Cell.isDead]⟩, by simp, by simp⟩
  · obtain ⟨rfl, rfl, rfl⟩ : a0 = some a ∧ len0 = len ∧ cap0 = cap := by simpa [Value.cells] using hcs
    let l : List (List Int) := (List.range len0).map fun r => (Z r).take (L r)
    let g : List GC := (List.range len0).map fun r => GRow (A r) (C r) ((Z r).take (L r))
    have hll : l.length = len0 := by show (List.map _ (List.range len0)).length = len0; rw [List.length_map, List.length_range]
    have hgl : g.length = len0 := by show (List.map _ (List.range len0)).length = len0; rw [List.length_map, List.length_range]
    have hlen : ∀ r, r < cap0 → ((Z r).take (L r)).length = L r := by
      intro r hr
      obtain ⟨_, h1, _, h2, _⟩ := hrow r hr
      rw [List.length_take]; omega
    have hcell : ∀ r, r < cap0 → holds W W.heap.size (GRow (A r) (C r) ((Z r).take (L r))) := by
      intro r hr
      obtain ⟨_, h1, _, h2, _, h3, h4⟩ := hrow r hr
      refine GRow_holds (by rw [hlen r hr]; exact h1) h3 fun a' ha i hi => ?_
      rw [hlen r hr] at hi
      rw [(h4 a' ha).2 i (by omega)]
      simp [List.getD_eq_getElem?_getD, List.getElem?_take_of_lt hi]
    have hgf : ∀ m : List Nat, footL (m.map fun r => GRow (A r) (C r) ((Z r).take (L r))) = [] := by
      intro m
      induction m with
      | nil => rfl
      | cons x m ih =>
        rw [List.map_cons, footL, ih, GRow, foot, GI_foot]
        rfl
    have hge : ∀ m : List Nat, eraseL (m.map fun r => GRow (A r) (C r) ((Z r).take (L r))) = RL (m.map fun r => (Z r).take (L r)) := by
      intro m
      induction m with
      | nil => rfl
      | cons x m ih =>
        rw [List.map_cons, eraseL, ih, GRow, Cell.erase, GI_erase]
        rfl
    have hspot : a.spot = none := ok_spot Try.underlying36 hok'
    refine ⟨l, ⟨(.one, [.sl false 1 ⟨some a, cap0⟩ g]), ?_, ?_, ⟨⟨⟨by decide, Nat.mod_one _, by rw [hgl, Nat.div_one]; exact hl, fun _ => hgf _⟩, ⟨fun _ => hspot, ?_, ?_⟩, ?_⟩, trivial⟩, ?_, by simp [Cell.isDead]⟩, ?_, ?_⟩
    · simp only [bare, List.map_cons, List.map_nil, Cell.erase]; rw [hge]
    · simp [pack, Cell.val, hgl]
    · intro i c hi
      have hil : i < len0 := by rw [← hgl]; exact (List.getElem?_eq_some_iff.1 hi).1
      simp only [g, List.getElem?_map, List.getElem?_range hil, Option.map_some, Option.some.injEq] at hi
      subst hi
      refine ⟨_, (hrow i (by omega)).1, .inr ?_⟩
      simp only [GRow, Cell.val, GI_length, Nat.div_one]
      rw [hlen i (by omega)]
    · simp only [Bool.false_eq_true, if_false]
      intro hne
      have hl0 : 0 < len0 := by
        rw [← hgl]
        exact List.length_pos_iff.2 hne
      have := World.block_lt_of_cell? _ _ (hrow 0 (by omega)).1
      rwa [show a.add 0 = a by simp [Addr.add]] at this
    · rw [holdsL_iff]
      intro c hc
      obtain ⟨r, hr, rfl⟩ := List.mem_map.1 hc
      exact hcell r (by have := List.mem_range.1 hr; omega)
    · simp only [footL, foot, blockOf]
      rw [hgf]; rfl
    · rw [hll]
      simp only [Prod.mk.injEq] at hx
      rw [hx.1] at hw
      have := hw _ (by simp only [DataW.weights, Try.underlying36]; exact List.mem_cons_self)
      rw [List.length_map, List.length_map, List.length_range, List.length_range] at this
      simp only [show Try.prog.bytesOf 25 = 24 by kernel_rfl, reachBytes] at this
      omega
    · intro i hi
      rw [hll] at hi
      have hn : nthR l i = (Z i).take (L i) := by
        rw [nthR_eq (by rw [hll]; exact hi)]
        show (List.map _ (List.range len0))[i]'_ = _
        rw [List.getElem_map, List.getElem_range]
      rw [hn, hlen i (by omega)]
      simp only [Prod.mk.injEq] at hx
      rw [hx.1] at hw
      obtain ⟨_, h1, _, h2, _, h3, _⟩ := hrow i (by omega)
      cases ha : A i with
      | none => have := h3 ha; omega
      | some a' =>
        have hin : intRowW (A i) (L i) (Z i) ∈ (List.range len0).map fun r => Go.Deep.intRow (H := H) .i64 (A r) (L r) (Z r) := List.mem_map.2 ⟨i, List.mem_range.2 hi, rfl⟩
        have := hw ((L i + (C i - L i)) * Try.prog.bytesOf 3) (by
          simp only [DataW.weights, Try.underlying36]
          refine List.mem_cons_of_mem _ (List.mem_append.2 (.inl (weightsAll_mem hin _ ?_)))
          simp only [intRowW, ha, Go.Deep.intRow, DataW.weights, Try.underlying25]
          simp only [lits, List.length_map]
          rw [hlen i (by omega), List.length_drop, h2]
          exact List.mem_cons_self)
        simp only [bytes3, reachBytes] at this
        omega
end
end Go.Proofs.Ytngglgkemonibaa.L
