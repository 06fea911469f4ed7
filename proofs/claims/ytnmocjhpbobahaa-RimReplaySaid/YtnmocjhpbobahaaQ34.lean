/- DERIVED: THE SHELF's CONTRACTS AT THIS DUMP, IN PLAIN WORDS (tools/lay-plain.mjs out of 'TryShelf.lean', which tools/lay-shelf.mjs wrote): THE SAME DECLARATIONS UNDER THE SAME NAMES: 'import', 'namespace', 'open', 'def', 'theorem' AND NOTHING ELSE: no command of the shelf's: FOR A HAND-IN. Each laying: the table of numbers ('.._ren') and one theorem, a field a fact of the dump's own or the kernel's comparison; each contract: ONE APPLICATION. R50: slices.Sort of a row of numbers that is lent. -/
import Derived.Shelf.Sort.Plain
import Derived.Shelf.Slices.In.SortNone
import Derived.Test.YtnmocjhpbobahaaProg
import Derived.Test.YtnmocjhpbobahaaQ13
import Derived.Sort.OwnSortedInts
set_option linter.unusedVariables false
set_option linter.unusedSimpArgs false
set_option linter.unnecessarySimpa false
namespace Go.Proofs
open Go.Shelf
def Try.lays189_ren : Go.Shelf.Ren := ⟨fun | 189 => 50 | 125 => 69 | 257 => 68 | 128 => 89 | 129 => 90 | 294 => 80 | 295 => 81 | 296 => 82 | 297 => 83 | 298 => 84 | 299 => 85 | 216 => 86 | 300 => 87 | 301 => 88 | 328 => 93 | 329 => 94 | 330 => 95 | 331 => 96 | 332 => 97 | 215 => 79 | 343 => 98 | n => n, fun | 28 => 39 | 3 => 3 | 46 => 116 | 0 => 0 | 51 => 134 | 53 => 136 | 4 => 4 | 183 => 128 | 182 => 127 | 131 => 117 | 5 => 5 | 9 => 9 | 218 => 138 | 222 => 142 | 228 => 144 | 229 => 145 | n => n, fun | n => n⟩
theorem Try.lays189 : Go.Proofs.Lays.n189 Try.prog Try.lays189_ren := {
  mixed := by kernel_rfl
  f125 := Try.func69.trans (congrArg some (by kernel_rfl))
  f128 := Try.func89.trans (congrArg some (by kernel_rfl))
  f129 := Try.func90.trans (congrArg some (by kernel_rfl))
  f189 := Try.func50.trans (congrArg some (by kernel_rfl))
  f215 := Try.func79.trans (congrArg some (by kernel_rfl))
  f216 := Try.func86.trans (congrArg some (by kernel_rfl))
  f257 := Try.func68.trans (congrArg some (by kernel_rfl))
  f294 := Try.func80.trans (congrArg some (by kernel_rfl))
  f295 := Try.func81.trans (congrArg some (by kernel_rfl))
  f296 := Try.func82.trans (congrArg some (by kernel_rfl))
  f297 := Try.func83.trans (congrArg some (by kernel_rfl))
  f298 := Try.func84.trans (congrArg some (by kernel_rfl))
  f299 := Try.func85.trans (congrArg some (by kernel_rfl))
  f300 := Try.func87.trans (congrArg some (by kernel_rfl))
  f301 := Try.func88.trans (congrArg some (by kernel_rfl))
  f328 := Try.func93.trans (congrArg some (by kernel_rfl))
  f329 := Try.func94.trans (congrArg some (by kernel_rfl))
  f330 := Try.func95.trans (congrArg some (by kernel_rfl))
  f331 := Try.func96.trans (congrArg some (by kernel_rfl))
  f332 := Try.func97.trans (congrArg some (by kernel_rfl))
  f343 := Try.func98.trans (congrArg some (by kernel_rfl))
  t0 := Try.underlying0
  a0 := Try.isAgg0
  z0 := Try.sizeOf0
  v0 := Try.zeroValue0
  t3 := Try.underlying3
  a3 := Try.isAgg3
  z3 := Try.sizeOf3
  v3 := Try.zeroValue3
  t4 := Try.underlying4
  a4 := Try.isAgg4
  z4 := Try.sizeOf4
  v4 := Try.zeroValue4
  t5 := Try.underlying5
  a5 := Try.isAgg5
  z5 := Try.sizeOf5
  v5 := Try.zeroValue5
  t9 := Try.underlying9
  a9 := Try.isAgg9
  z9 := Try.sizeOf9
  v9 := Try.zeroValue9
  t28 := Try.underlying39
  a28 := Try.isAgg39
  z28 := Try.sizeOf39
  v28 := Try.zeroValue39
  t46 := Try.underlying116
  a46 := Try.isAgg116
  z46 := Try.sizeOf116
  v46 := Try.zeroValue116
  t51 := Try.underlying134
  a51 := Try.isAgg134
  z51 := Try.sizeOf134
  v51 := Try.zeroValue134
  t53 := Try.underlying136
  a53 := Try.isAgg136
  z53 := Try.sizeOf136
  v53 := Try.zeroValue136
  t131 := Try.underlying117
  a131 := Try.isAgg117
  z131 := Try.sizeOf117
  v131 := Try.zeroValue117
  t182 := Try.underlying127
  a182 := Try.isAgg127
  z182 := Try.sizeOf127
  v182 := Try.zeroValue127
  t183 := Try.underlying128
  a183 := Try.isAgg128
  z183 := Try.sizeOf128
  v183 := Try.zeroValue128
  t218 := Try.underlying138
  a218 := Try.isAgg138
  z218 := Try.sizeOf138
  v218 := Try.zeroValue138
  t222 := Try.underlying142
  a222 := Try.isAgg142
  z222 := Try.sizeOf142
  v222 := Try.zeroValue142
  t228 := Try.underlying144
  a228 := Try.isAgg144
  z228 := Try.sizeOf144
  v228 := Try.zeroValue144
  t229 := Try.underlying145
  a229 := Try.isAgg145
  z229 := Try.sizeOf145
  v229 := Try.zeroValue145 }
open Go.Sort Go.RowKit in
theorem Try.slices_Sort_int (blk off cap : Nat) (zs : List Int) (w : World) (hH : Holds (Value.int .i64) w blk off zs.toArray) (hblk : blk < w.heap.size) (hsz : zs.length < 4611686018427387904) :
    Calls Try.prog 50 #[.slice (some ⟨blk, off, none⟩) zs.length cap] w fun e w' =>
      e = .returned (.tuple #[]) ∧ ∃ n os, w' = grow (putRow (Value.int .i64) (Sort.ahead w n) blk off (zs.mergeSort fun x y => decide (x ≤ y)).toArray) os := Any.slices_Sort_int Try.lays189 blk off cap zs w hH hblk hsz
open Go.RowKit Go.Sort in
/-- .. and plain. (LAID: no walk: one application.) -/
theorem Try.slices_Sort_int_none (p : Option Addr) (cap : Nat) (w : World) :
    Calls Try.prog 50 #[.slice p 0 cap] w fun e w' => e = .returned (.tuple #[]) ∧ w' = w := Any.slices_Sort_int_none Try.lays189 p cap w
end Go.Proofs
namespace Go.Proofs.Ytnmocjhpbobahaa.L
open Go Go.RowKit
set_option maxRecDepth 100000
set_option linter.unusedVariables false
def sortI (l : List Int) : List Int := l.mergeSort fun x y => decide (x ≤ y)
theorem sortI_length (l : List Int) : (sortI l).length = l.length := List.length_mergeSort l
theorem gints : ∀ {row : List GC} {l : List Int}, eraseL row = IL l → row = l.map fun x => Cell.sc (.int .i64 x)
  | [], [], _ => rfl
  | [], x :: l, h => by simp [eraseL, IL] at h
  | c :: row, [], h => by simp [eraseL, IL] at h
  | c :: row, x :: l, h => by
    have h' : c.erase = .sc (.int .i64 x) ∧ eraseL row = IL l := by simpa [eraseL, IL] using h
    rw [gints h'.2]
    have := h'.1
    cases c <;> simp_all [Cell.erase]
theorem footL_gints (l : List Int) : footL (l.map fun x => (Cell.sc (.int .i64 x) : GC)) = [] := by
  induction l with
  | nil => rfl
  | cons x l ih => rw [List.map_cons, footL, ih]; rfl
theorem holdsL_gints (w : World) (z : Zn) (l : List Int) : holdsL w z (l.map fun x => (Cell.sc (.int .i64 x) : GC)) := by
  induction l with
  | nil => trivial
  | cons x l ih => exact ⟨rfl, ih⟩
theorem erase_gints (l : List Int) : eraseL (l.map fun x => (Cell.sc (.int .i64 x) : GC)) = IL l := by
  induction l with
  | nil => rfl
  | cons x l ih => rw [List.map_cons, eraseL, ih]; rfl
theorem addr_eq (a : Addr) (h : a.spot = none) (i : Nat) : a.add i = ⟨a.block, a.off + i, none⟩ := by
  unfold Addr.add
  obtain ⟨b, o, s⟩ := a
  simp only at h
  subst h
  split
  · next h => subst h; rfl
  · rfl
theorem cell_of {w : World} {b : Nat} {cs : Array Value} {e : TypeId} (hb : w.heap[b]? = some (.cells cs e (0, 0))) (k : Nat) : w.cell? ⟨b, k, none⟩ = cs[k]? := by
  simp [World.cell?, hb]
theorem goodSort (l : List Int) (hl : l.length ≤ 1000000) : GoodL Try.prog 50 (.sl true 1 () (IL l)) [] (lentSV (.sl true 1 () (IL (sortI l))) (resSV [])) := by
  refine ⟨⟨_, Try.func50, rfl, by decide⟩, fun w g gs hg ho ha hgs hh hn hgg => ?_⟩
  have hgs0 : gs = [] := by cases gs with
    | nil => rfl
    | cons _ _ => cases hgs
  subst hgs0
  cases g with
  | sc v => cases hg
  | dead => cases hg
  | bx o gh row => cases hg
  | sl o sz gh row =>
    simp only [Cell.erase, Cell.sl.injEq] at hg
    obtain ⟨rfl, rfl, _, hrow⟩ := hg
    have hrow := gints hrow
    subst hrow
    obtain ⟨⟨_, _, hcap, _⟩, hbase, hrows⟩ := hh
    simp only [List.length_map, Nat.div_one] at hcap
    have hv : (Cell.sl true 1 gh (l.map fun x => (Cell.sc (.int .i64 x) : GC))).val = .slice gh.a l.length gh.cap := by simp [Cell.val]
    rw [List.map_nil, hv]
    cases hga : gh.a with
    | none =>
      rw [hga] at hbase
      obtain ⟨h1, h2⟩ := hbase
      have hl0 : l = [] := by simpa using h1
      subst hl0
      refine (Try.slices_Sort_int_none none gh.cap w).mono ?_
      rintro e w' ⟨rfl, rfl⟩
      refine ⟨.tup [], [], [], by rw [show sortI [] = [] from List.eq_nil_of_length_eq_zero (sortI_length [])]; rfl, rfl, rfl, Bel.refl _ _, ⟨⟨⟨by omega, rfl, Nat.zero_le _, fun h => by cases h⟩, ?_, trivial⟩, trivial⟩, ?_, by simp⟩
      · show base _ _ true gh.a _ _
        rw [hga]; exact ⟨rfl, h2⟩
      · simp [Cell.withRow, footL, foot, blockOf, hga]
    | some a =>
      rw [hga] at hbase
      obtain ⟨h1, h2, h3⟩ := hbase
      have hsp := h1 (.inl rfl)
      simp only [if_true] at h3
      obtain ⟨hz, hr, cs, et, hb, hsz⟩ := h3
      have hcell : ∀ j, j < l.length → cs[a.off + j]? = some (.int .i64 (l.getD j 0)) := by
        intro j hj
        obtain ⟨v, hv1, hv2⟩ := h2 j (.sc (.int .i64 (l.getD j 0))) (by simp [hj])
        have hv2 := hv2.resolve_left (by simp [Cell.isDead])
        rw [addr_eq a hsp, cell_of hb] at hv1
        rw [hv1, hv2]; rfl
      have hH : Go.Sort.Holds (Value.int .i64) w a.block a.off l.toArray := by
        intro j hj
        have hj' : j < l.length := by simpa using hj
        refine ⟨?_, by simp [World.frozen?, hb]⟩
        rw [cell_of hb, hcell j hj']
        simp [hj']
      have hblk : a.block < w.heap.size := (Array.getElem?_eq_some_iff.1 hb).1
      have hae : a = ⟨a.block, a.off, none⟩ := by obtain ⟨b, o, s⟩ := a; simp only at hsp; subst hsp; rfl
      have hS := Try.slices_Sort_int a.block a.off gh.cap l w hH hblk (by omega)
      rw [← hae] at hS
      refine hS.mono ?_
      rintro e w' ⟨rfl, n, os, rfl⟩
      have hs : (l.mergeSort fun x y => decide (x ≤ y)) = sortI l := rfl
      rw [hs]
      have hheap : (Go.Sort.grow (Go.Sort.putRow (Value.int .i64) (Go.Sort.ahead w n) a.block a.off (sortI l).toArray) os).heap[a.block]? = some (.cells (Go.Sort.putCells (Value.int .i64) a.off (sortI l).toArray cs) et (0, 0)) := by
        rw [Go.Sort.heap_grow_old _ _ (by simpa [Go.Sort.putRow, Go.Sort.mapBlock, Go.Sort.ahead] using hblk)]
        simp [Go.Sort.putRow, Go.Sort.mapBlock, Go.Sort.ahead, Array.getElem?_modify, hb, Go.Sort.onCells]
      have hlen := sortI_length l
      refine ⟨.tup [], (sortI l).map fun x => Cell.sc (.int .i64 x), [], ?_, by simp [Cell.row, hlen], rfl, ⟨rfl, rfl, rfl, ?_, ?_⟩, ⟨⟨⟨by omega, by simp [Nat.mod_one], by simpa [hlen] using hcap, fun h => by cases h⟩, ?_, holdsL_gints _ _ _⟩, trivial⟩, ?_, by simp⟩
      · simp only [bare, Cell.withRow, List.map_cons, List.map_nil, Cell.erase, erase_gints]
        rfl
      · simp [Go.Sort.putRow, Go.Sort.mapBlock, Go.Sort.ahead]
      · intro k hk
        have hk2 : k < w.heap.size := Zn.old hk
        have hne : a.block ≠ k := by
          rintro rfl
          exact hk (.inr (by simp [foot, blockOf, hga]))
        rw [Go.Sort.heap_grow_old _ _ (by simpa [Go.Sort.putRow, Go.Sort.mapBlock, Go.Sort.ahead] using hk2)]
        simp [Go.Sort.putRow, Go.Sort.mapBlock, Go.Sort.ahead, Array.getElem?_modify, hne]
      · show base _ _ true gh.a _ _
        rw [hga]
        refine ⟨fun _ => hsp, fun i c hc => ?_, ?_⟩
        · rw [List.getElem?_map] at hc
          cases hi : (sortI l)[i]? with
          | none => rw [hi] at hc; cases hc
          | some x =>
            rw [hi] at hc
            simp only [Option.map_some, Option.some.injEq] at hc
            subst hc
            refine ⟨.int .i64 x, ?_, .inr rfl⟩
            have hil : i < (sortI l).length := (List.getElem?_eq_some_iff.1 hi).1
            have hics : a.off + i < cs.size := by
              have := hcell i (by omega)
              exact (Array.getElem?_eq_some_iff.1 this).1
            rw [addr_eq a hsp, cell_of hheap]
            simp only [Go.Sort.putCells, Array.getElem?_mapIdx, Array.getElem?_eq_getElem hics, Option.map_some, Option.some.injEq, List.size_toArray]
            rw [if_pos ⟨by omega, by omega⟩, show a.off + i - a.off = i by omega]
            have : (sortI l)[i] = x := by rw [List.getElem?_eq_getElem hil] at hi; exact Option.some.inj hi
            simp [hil, this]
        · simp only [if_true]
          refine ⟨hz, by simpa [hlen] using hr, _, _, hheap, by simpa [Go.Sort.putCells] using hsz⟩
      · simp only [Cell.withRow, footL, foot, blockOf, hga, footL_gints, List.append_nil, if_true]
        simp
end Go.Proofs.Ytnmocjhpbobahaa.L
