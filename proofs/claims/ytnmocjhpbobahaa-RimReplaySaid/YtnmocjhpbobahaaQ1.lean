/- M5: what is made, and what is written. M6: a row written anew inside a slot's tree; a row that grows in its place; the machine's runs of loads and stores. -/
import Derived.Test.YtnmocjhpbobahaaQ0
set_option linter.unusedVariables false
set_option linter.unusedSimpArgs false
set_option linter.unnecessarySimpa false
namespace Go.Proofs.Ytnmocjhpbobahaa.L
open Go Go.RowKit

theorem holds_free {w0 : W0} {w : World} {Γ : St Gh} {xs : List GC} {tm : Array Value} (h : Inv w0 Γ xs tm w) {y : GC} (hy : holds w w0.zn y) (hf : foot y = []) : Inv w0 Γ (y :: xs) tm w where
  below := h.below
  rel := h.rel
  hold := h.hold
  pool := ⟨hy, h.pool⟩
  nod := h.nod
  dis := h.dis
  nodP := by simpa [footL, hf] using h.nodP
  disP s b hb := by simpa [footL, hf] using h.disP s b hb

theorem same_alloc (w : World) (o : Obj) {b : Nat} (h : b < w.heap.size) : Same w (w.alloc o) b := by
  show (w.heap.push o)[b]? = w.heap[b]?
  rw [Array.getElem?_push, if_neg (by omega)]
theorem alloc_at (w : World) (o : Obj) : (w.alloc o).heap[w.heap.size]? = some o := by
  show (w.heap.push o)[w.heap.size]? = some o
  simp
theorem cell_alloc (w : World) (cs : Array Value) (e : TypeId) (fz : Nat × Nat) (i : Nat) : (w.alloc (.cells cs e fz)).cell? ((⟨w.heap.size, 0, none⟩ : Addr).add i) = cs[i]? := by
  have h : ((⟨w.heap.size, 0, none⟩ : Addr).add i) = ⟨w.heap.size, i, none⟩ := by
    unfold Addr.add; split
    · next h => subst h; rfl
    · simp
  rw [h]
  unfold World.cell?
  show (match (w.alloc (.cells cs e fz)).heap[w.heap.size]? with | some (.cells c _ _) => if (none : Option Nat).isSome then none else c[i]? | _ => none) = cs[i]?
  rw [alloc_at]
  rfl

/-- A new block leaves all that is owned as it was. -/
theorem Inv.alloc {w0 : W0} {w : World} {Γ : St Gh} {xs : List GC} {tm : Array Value} (h : Inv w0 Γ xs tm w) (o : Obj) : Inv w0 Γ xs tm (w.alloc o) := by
  refine h.world ((Bel.refl _ w).alloc h.below.size o) (fun s b hb => same_alloc w o ?_) (fun b hb => same_alloc w o (footL_lt xs h.pool b hb).1)
  obtain ⟨c, hc, hbc⟩ := mem_footL.1 hb
  obtain ⟨x, hx, rfl⟩ := List.mem_map.1 hc
  exact (sc_foot (h.hold s _ hx) b hbc).1

/-- A new row, over what was taken out. -/
theorem Inv.fresh {w0 : W0} {w : World} {Γ : St Gh} {ys xs : List GC} {tm : Array Value} (h : Inv w0 Γ (ys ++ xs) tm w) {row : List GC} (hf : (footL row).Perm (footL ys))
    (hr : holdsL w w0.zn row) {cs : Array Value} {e : TypeId} (hcs : ∀ (i : Nat) (c : GC), row[i]? = some c → ∃ v, cs[i]? = some v ∧ (c.isDead = true ∨ v = c.val))
    {c : GC} (hc : c = .bx true ⟨some ⟨w.heap.size, 0, none⟩, 0⟩ row ∧ row.length ≤ cs.size ∨ ∃ sz cap, c = .sl true sz ⟨some ⟨w.heap.size, 0, none⟩, cap⟩ row ∧ 0 < sz ∧ row.length % sz = 0 ∧ row.length / sz ≤ cap ∧ cap * sz ≤ cs.size) :
    Inv w0 Γ (c :: xs) tm (w.alloc (.cells cs e)) := by
  have h2 := h.alloc (.cells cs e)
  have hlt : ∀ b ∈ footL row, b < w.heap.size := fun b hb => (footL_lt _ h.pool b (by rw [footL_append]; simp [hf.mem_iff.1 hb])).1
  have hr' : holdsL (w.alloc (.cells cs e)) w0.zn row := by
    refine holdsL_same row (fun b hb => same_alloc w _ (hlt b hb)) (fun b hb => same_alloc w _ ?_) hr
    exact Nat.lt_of_lt_of_le (Zn.old hb) h.below.size
  have hbase : ∀ room, row.length ≤ room → room ≤ cs.size → base (w.alloc (.cells cs e)) w0.zn true (some ⟨w.heap.size, 0, none⟩) room row := by
    intro room h1 h3
    refine ⟨fun _ => rfl, fun i c hi => ?_, ?_⟩
    · obtain ⟨v, hv, hd⟩ := hcs i c hi
      exact ⟨v, by rw [cell_alloc]; exact hv, hd⟩
    · simp only [if_true]
      exact ⟨.inl h.below.size, h1, cs, e, alloc_at w _, by omega⟩
  have hcells : holds (w.alloc (.cells cs e)) w0.zn c ∧ foot c = w.heap.size :: footL row := by
    rcases hc with ⟨rfl, h1⟩ | ⟨sz, cap, rfl, h1, h3, h4, h5⟩
    · exact ⟨⟨⟨⟨_, rfl, rfl⟩, by simp⟩, hbase _ (Nat.le_refl _) h1, hr'⟩, rfl⟩
    · refine ⟨⟨⟨h1, h3, h4, by simp⟩, hbase _ ?_ h5, hr'⟩, rfl⟩
      have := Nat.div_add_mod row.length sz
      rw [h3] at this
      have := Nat.mul_le_mul_left sz h4
      rw [Nat.mul_comm cap sz]
      omega
  have hN : (footL ys ++ footL xs).Nodup := by have := h.nodP; rwa [footL_append] at this
  have hxs : holdsL (w.alloc (.cells cs e)) w0.zn xs := by
    have := h2.pool; rw [holdsL_iff] at this ⊢; exact fun c hc => this c (by simp [hc])
  have hlt2 : ∀ b ∈ footL xs, b < w.heap.size := fun b hb => (footL_lt _ h.pool b (by rw [footL_append]; simp [hb])).1
  refine ⟨h2.below, h2.rel, h2.hold, ⟨hcells.1, hxs⟩, h2.nod, h2.dis, ?_, ?_⟩
  · simp only [footL, hcells.2, List.cons_append, List.nodup_cons, List.mem_append, not_or]
    refine ⟨⟨fun hb => by have := hlt _ hb; omega, fun hb => by have := hlt2 _ hb; omega⟩, ?_⟩
    exact (List.Perm.append_right _ hf).nodup_iff.2 hN
  · intro s b hb
    simp only [footL, hcells.2, List.cons_append, List.mem_cons, List.mem_append, not_or]
    have hd := h.disP s b hb
    rw [footL_append] at hd
    simp only [List.mem_append, not_or] at hd
    refine ⟨?_, fun hm => hd.1 (hf.mem_iff.1 hm), hd.2⟩
    obtain ⟨c', hc', hbc⟩ := mem_footL.1 hb
    obtain ⟨x, hx, rfl⟩ := List.mem_map.1 hc'
    have := (sc_foot (h.hold s _ hx) b hbc).1; omega

/-! ### writing -/
/-- The world turned in one block alone, and there in its cells alone. -/
structure Only (w w' : World) (B : Nat) : Prop where
  same : ∀ b, b ≠ B → Same w w' b
  os : w'.os = w.os
  tape : w'.tape = w.tape
  output : w'.output = w.output
  size : w.heap.size ≤ w'.heap.size
  block : ∀ cs e, w.heap[B]? = some (.cells cs e (0, 0)) → ∃ cs', cs'.size = cs.size ∧ w'.heap[B]? = some (.cells cs' e (0, 0))
theorem Only.refl (w : World) (B : Nat) : Only w w B := ⟨fun _ _ => rfl, rfl, rfl, rfl, Nat.le_refl _, fun cs e h => ⟨cs, rfl, h⟩⟩
theorem Only.trans {a b c : World} {B : Nat} (h : Only a b B) (k : Only b c B) : Only a c B where
  same i hi := (k.same i hi).trans (h.same i hi)
  os := k.os.trans h.os
  tape := k.tape.trans h.tape
  output := k.output.trans h.output
  size := Nat.le_trans h.size k.size
  block cs e hb := by
    obtain ⟨cs', h1, h2⟩ := h.block cs e hb
    obtain ⟨cs'', h3, h4⟩ := k.block cs' e h2
    exact ⟨cs'', h3.trans h1, h4⟩
theorem Only.below {w w' : World} {B : Nat} {z : Zn} (h : Only w w' B) (hB : z.has B) : Bel z w w' :=
  ⟨h.os, h.tape, h.output, h.size, fun k hk => h.same k (fun e => hk (e ▸ hB))⟩
/-- What lies elsewhere stands. -/
theorem holds_only {w w' : World} {B : Nat} {n0 : Zn} (h : Only w w' B) (hB : n0.has B) {c : GC} (hb : B ∉ foot c) (hc : holds w n0 c) : holds w' n0 c :=
  holds_same c (fun b hm => h.same b (fun e => hb (e ▸ hm))) (fun b hm => h.same b (fun e => hm (e ▸ hB))) hc

theorem blockOf_own {c : GC} {a : Addr} (ho : c.isOwn = true) (ha : c.gh.a = some a) : a.block ∈ foot c := by
  rw [foot_row]; simp [blockOf, ho, ha]

theorem getC_foot : ∀ (p : List Nat) (c d : GC), c.getC p = some d → ∀ b ∈ foot d, b ∈ foot c
  | [], c, d, h, b, hb => by simp only [Cell.getC, Option.some.injEq] at h; exact h ▸ hb
  | j :: q, c, d, h, b, hb => by
    obtain ⟨_, e, he, hd⟩ := getC_cons h
    rw [foot_row]
    exact List.mem_append.2 (.inr (mem_footL.2 ⟨e, List.mem_of_getElem? he, getC_foot q e d hd b hb⟩))

theorem own_base {w : World} {n0 : Zn} {c : GC} (h : holds w n0 c) (ho : c.isOwn = true) {a : Addr} (ha : c.gh.a = some a) :
    a.spot = none ∧ n0.has a.block ∧ ∃ room, c.row.length ≤ room ∧ (∀ o sz g row, c = .sl o sz g row → room = g.cap * sz) ∧ ∃ cs e, w.heap[a.block]? = some (.cells cs e (0, 0)) ∧ a.off + room ≤ cs.size := by
  cases c with
  | sc v => simp [Cell.isOwn] at ho
  | dead => simp [Cell.isOwn] at ho
  | sl o sz g row =>
    simp only [Cell.isOwn] at ho
    subst ho
    simp only [Cell.gh] at ha
    obtain ⟨_, h2, _⟩ := h
    rw [ha] at h2
    obtain ⟨h3, _, h4⟩ := h2
    simp only [if_true] at h4
    exact ⟨h3 (.inl rfl), h4.1, g.cap * sz, h4.2.1, (fun _ _ _ _ e => by cases e; rfl), h4.2.2⟩
  | bx o g row =>
    simp only [Cell.isOwn] at ho
    subst ho
    simp only [Cell.gh] at ha
    obtain ⟨_, h2, _⟩ := h
    rw [ha] at h2
    obtain ⟨h3, _, h4⟩ := h2
    simp only [if_true] at h4
    exact ⟨h3 (.inl rfl), h4.1, row.length, h4.2.1, (fun _ _ _ _ e => by cases e), h4.2.2⟩

/-- The row of an owned cell, written anew in its block. -/
theorem holds_rewrite {w w' : World} {n0 : Zn} {c : GC} {l : List GC} {a : Addr} (h : holds w n0 c) (ho : c.isOwn = true) (ha : c.gh.a = some a) (hO : Only w w' a.block) (hl : l.length = c.row.length)
    (hv : ∀ i x, l[i]? = some x → ∃ v, w'.cell? (a.add i) = some v ∧ (x.isDead = true ∨ v = x.val)) (hr : holdsL w' n0 l) : holds w' n0 (c.withRow l) := by
  cases c with
  | sc v => simp [Cell.isOwn] at ho
  | dead => simp [Cell.isOwn] at ho
  | sl o sz g row =>
    simp only [Cell.isOwn] at ho
    subst ho
    simp only [Cell.row] at hl
    simp only [Cell.gh] at ha
    obtain ⟨h1, h2, _⟩ := h
    refine ⟨⟨h1.1, by rw [hl]; exact h1.2.1, by rw [hl]; exact h1.2.2.1, by simp⟩, ?_, hr⟩
    rw [ha] at h2 ⊢
    obtain ⟨a1, a2, a3⟩ := h2
    simp only [if_true] at a3
    obtain ⟨b1, b2, cs, e, b3, b4⟩ := a3
    obtain ⟨cs', d1, d2⟩ := hO.block cs e b3
    exact ⟨fun _ => a1 (.inl rfl), hv, by simp only [if_true]; exact ⟨b1, by omega, cs', e, d2, by omega⟩⟩
  | bx o g row =>
    simp only [Cell.isOwn] at ho
    subst ho
    simp only [Cell.row] at hl
    simp only [Cell.gh] at ha
    obtain ⟨h1, h2, _⟩ := h
    refine ⟨⟨h1.1, by simp⟩, ?_, hr⟩
    show base w' n0 true g.a l.length l
    rw [ha] at h2 ⊢
    obtain ⟨a1, a2, a3⟩ := h2
    simp only [if_true] at a3
    obtain ⟨b1, b2, cs, e, b3, b4⟩ := a3
    obtain ⟨cs', d1, d2⟩ := hO.block cs e b3
    exact ⟨fun _ => a1 (.inl rfl), hv, by simp only [if_true]; exact ⟨b1, by omega, cs', e, d2, by omega⟩⟩

theorem nodup_row {c : GC} (h : (foot c).Nodup) : (footL c.row).Nodup := by
  rw [foot_row] at h
  exact (List.nodup_append.1 h).2.1
theorem footL_nodup_get {l : List GC} (h : (footL l).Nodup) {i j : Nat} {x y : GC} (hx : l[i]? = some x) (hy : l[j]? = some y) (hij : i ≠ j) {b : Nat} (hb : b ∈ foot x) : b ∉ foot y := by
  induction l generalizing i j with
  | nil => simp at hx
  | cons c l ih =>
    simp only [footL] at h
    obtain ⟨_, h2, h3⟩ := List.nodup_append.1 h
    cases i with
    | zero =>
      simp at hx; subst hx
      cases j with
      | zero => omega
      | succ j => simp at hy; exact fun hb' => h3 b hb b (mem_footL.2 ⟨y, List.mem_of_getElem? hy, hb'⟩) rfl
    | succ i =>
      simp at hx
      cases j with
      | zero => simp at hy; subst hy; exact fun hb' => h3 b hb' b (mem_footL.2 ⟨x, List.mem_of_getElem? hx, hb⟩) rfl
      | succ j => simp at hy; exact ih h2 hx hy (by omega)

/-- Down a path: a row below is written anew; the tree stands. -/
theorem holds_deep {w w' : World} {n0 : Zn} {a : Addr} : ∀ (p : List Nat) (c d : GC) (l : List GC), c.getC p = some d → d.isOwn = true → d.gh.a = some a → holds w n0 c → (foot c).Nodup → Only w w' a.block → n0.has a.block →
    holds w' n0 (d.withRow l) → l.length = d.row.length → holds w' n0 (c.setC p (d.withRow l))
  | [], c, d, l, _, _, _, _, _, _, _, hd, _ => hd
  | j :: q, c, d, l, hg, ho, ha, hc, hn, hO, hB, hd, hl => by
    obtain ⟨hco, e, he, hed⟩ := getC_cons hg
    simp only [Cell.setC, he]
    have hj : j < c.row.length := (List.getElem?_eq_some_iff.1 he).1
    have hBe : a.block ∈ foot e := getC_foot q e d hed _ (blockOf_own ho ha)
    have hne : (foot e).Nodup := by
      have := nodup_row hn
      have hp := footL_set c.row j e .dead he
      simp only [foot, List.append_nil] at hp
      exact (List.nodup_append.1 (hp.nodup_iff.2 this)).2.1
    have ih := holds_deep q e d l hed ho ha (holdsL_get (holds_row hc) he) hne hO hB hd hl
    have hBc : a.block ∉ blockOf c.isOwn c.gh := by
      intro hb
      rw [foot_row] at hn
      exact (List.nodup_append.1 hn).2.2 _ hb _ (mem_footL.2 ⟨e, List.mem_of_getElem? he, hBe⟩) rfl
    have hother : ∀ i x, c.row[i]? = some x → i ≠ j → holds w' n0 x := by
      intro i x hx hij
      exact holds_only hO hB (footL_nodup_get (nodup_row hn) he hx (fun h => hij h.symm) hBe) (holdsL_get (holds_row hc) hx)
    have hhead : (e.setC q (d.withRow l)).isDead = false ∧ (e.setC q (d.withRow l)).val = e.val := by
      cases q with
      | nil =>
        simp only [Cell.getC, Option.some.injEq] at hed
        subst hed
        have hh : (e.withRow l).head = e.head := withRow_head hl
        exact ⟨by cases e <;> simp_all [Cell.setC, Cell.withRow, Cell.isDead, Cell.isOwn], by simpa [Cell.setC] using head_val hh.symm ho⟩
      | cons i q =>
        obtain ⟨ho2, _⟩ := getC_cons hed
        have hh := setC_head (i :: q) e (d.withRow l) (by simp)
        refine ⟨?_, head_val hh.symm ho2⟩
        have := head_own hh.symm ho2
        cases hx : e.setC (i :: q) (d.withRow l) <;> simp_all [Cell.isDead, Cell.isOwn]
    -- the rest of c, in w'
    obtain ⟨b, hbl⟩ : ∃ b, b = c.gh.a := ⟨_, rfl⟩
    cases hga : c.gh.a with
    | none =>
      obtain ⟨a', ha', _⟩ := base_cell hc he
      rw [hga] at ha'; cases ha'
    | some a0 =>
      have hne0 : a0.block ≠ a.block := fun h => hBc (by simp [blockOf, hco, hga, h])
      have hO0 : Only w w' a0.block → True := fun _ => trivial
      obtain ⟨r1, r2, room, r3, r4, cs, ee, r5, r6⟩ := own_base hc hco hga
      have hcell : ∀ i, w'.cell? (a0.add i) = w.cell? (a0.add i) := by
        intro i
        have e1 : (a0.add i).block = a0.block := by unfold Addr.add; split <;> rfl
        exact World.cell?_of_block (by rw [e1]; exact hO.same _ hne0)
      have hcw : holds w' n0 (c.withRow (c.row.set j (e.setC q (d.withRow l)))) := by
        have hstand : ∀ i x, (c.row.set j (e.setC q (d.withRow l)))[i]? = some x → ∃ v, w'.cell? (a0.add i) = some v ∧ (x.isDead = true ∨ v = x.val) := by
          intro i x hx
          rw [hcell i]
          rw [List.getElem?_set] at hx
          split at hx
          · next hji =>
            subst hji
            simp only [hj, if_true, Option.some.injEq] at hx
            subst hx
            obtain ⟨a', ha', _, v, hv1, hv2⟩ := base_cell hc he
            rw [hga] at ha'; cases ha'
            refine ⟨v, hv1, ?_⟩
            rcases hv2 with hv2 | hv2
            · have : e.isDead = false := by
                cases e <;> simp_all [Cell.isDead, foot]
              rw [hv2] at this; cases this
            · exact .inr (by rw [hhead.2]; exact hv2)
          · obtain ⟨a', ha', _, v, hv1, hv2⟩ := base_cell hc hx
            rw [hga] at ha'; cases ha'
            exact ⟨v, hv1, hv2⟩
        have hkids : holdsL w' n0 (c.row.set j (e.setC q (d.withRow l))) := by
          rw [holdsL_iff]
          intro x hx
          obtain ⟨i, hi, hxi⟩ := List.mem_iff_getElem.1 hx
          have hx' : (c.row.set j (e.setC q (d.withRow l)))[i]? = some x := by rw [List.getElem?_eq_getElem hi, hxi]
          rw [List.getElem?_set] at hx'
          split at hx'
          · next hji =>
            subst hji
            simp only [hj, if_true, Option.some.injEq] at hx'
            subst hx'
            exact ih
          · next hji => exact hother i x hx' (fun h => hji h.symm)
        cases c with
        | sc v => simp [Cell.isOwn] at hco
        | dead => simp [Cell.isOwn] at hco
        | sl o sz g row =>
          simp only [Cell.isOwn] at hco
          subst hco
          simp only [Cell.gh] at hga
          simp only [Cell.row] at hstand hkids r3 hj
          obtain ⟨h1, h2, _⟩ := hc
          refine ⟨⟨h1.1, by simpa [Cell.row] using h1.2.1, by simpa [Cell.row] using h1.2.2.1, by simp⟩, ?_, hkids⟩
          rw [hga]
          refine ⟨fun _ => r1, hstand, ?_⟩
          simp only [if_true, List.length_set]
          have hrm := r4 _ _ _ _ rfl
          subst hrm
          exact ⟨r2, r3, cs, ee, by rw [← r5]; exact hO.same _ hne0, r6⟩
        | bx o g row =>
          simp only [Cell.isOwn] at hco
          subst hco
          simp only [Cell.gh] at hga
          simp only [Cell.row] at hstand hkids r3 hj
          obtain ⟨h1, h2, _⟩ := hc
          refine ⟨⟨h1.1, by simp⟩, ?_, hkids⟩
          show base w' n0 true g.a _ _
          rw [hga] at h2 ⊢
          obtain ⟨a1, a2, a3⟩ := h2
          simp only [if_true] at a3
          obtain ⟨b1, b2, cs2, e2, b3, b4⟩ := a3
          refine ⟨fun _ => r1, hstand, ?_⟩
          simp only [if_true, List.length_set]
          exact ⟨b1, by simp [Cell.row], cs2, e2, by rw [← b3]; exact hO.same _ hne0, by simpa [Cell.row] using b4⟩
      exact hcw
end Go.Proofs.Ytnmocjhpbobahaa.L
namespace Go.Proofs.Ytnmocjhpbobahaa.L
open Go Go.RowKit
theorem sc_only {w w' : World} {B : Nat} {n0 : Zn} (hO : Only w w' B) (hB : n0.has B) {x : SC Gh} (hx : B ∉ foot x.cell) (h : scHolds w n0 x) : scHolds w' n0 x :=
  scHolds_same (fun b hb => hO.same b (fun e => hx (e ▸ hb))) (fun b hb => hO.same b (fun e => hb (e ▸ hB))) h


theorem getC_setRow : ∀ (p q : List Nat) (c d z : GC) (l : List GC), c.getC p = some d → d.isOwn = true → l.length = d.row.length → c.getC q = some z →
    (∀ i q', q = p ++ i :: q' → l[i]? = d.row[i]?) → ∃ z', (c.setC p (d.withRow l)).getC q = some z' ∧ z'.head = z.head
  | [], [], c, d, z, l, hd, ho, hl, hz, _ => by
    simp only [Cell.getC, Option.some.injEq] at hd hz
    subst hd; subst hz
    exact ⟨_, rfl, withRow_head hl⟩
  | [], i :: q, c, d, z, l, hd, ho, hl, hz, hq => by
    simp only [Cell.getC, Option.some.injEq] at hd
    subst hd
    obtain ⟨_, e, he, hze⟩ := getC_cons hz
    refine ⟨z, ?_, rfl⟩
    simp only [Cell.setC]
    rw [getC_cons_eq (d := e) (by rw [withRow_own]; exact ho) (by rw [withRow_row ho, hq i q rfl]; exact he)]
    exact hze
  | j :: p, [], c, d, z, l, hd, ho, hl, hz, _ => by
    simp only [Cell.getC, Option.some.injEq] at hz
    subst hz
    exact ⟨_, rfl, setC_head _ _ _ (by simp)⟩
  | j :: p, i :: q, c, d, z, l, hd, ho, hl, hz, hq => by
    obtain ⟨hco, e, he, hed⟩ := getC_cons hd
    obtain ⟨_, e2, he2, hz2⟩ := getC_cons hz
    clear hz
    simp only [Cell.setC, he]
    have hj : j < c.row.length := (List.getElem?_eq_some_iff.1 he).1
    by_cases hij : j = i
    · subst hij
      rw [he] at he2
      cases he2
      rw [getC_cons_eq (d := e.setC p (d.withRow l)) (by rw [withRow_own]; exact hco) (by rw [withRow_row hco]; simp [List.getElem?_set, hj])]
      exact getC_setRow p q e d z l hed ho hl hz2 (fun i q' h => hq i q' (by rw [h]; rfl))
    · rw [getC_cons_eq (d := e2) (by rw [withRow_own]; exact hco) (by rw [withRow_row hco]; simp [List.getElem?_set, hij, he2])]
      exact ⟨z, hz2, rfl⟩
theorem getP_setRow {v : SV Gh} {p q : List Nat} {d z : GC} {l : List GC} (hd : v.getP p = some d) (ho : d.isOwn = true) (hl : l.length = d.row.length) (hz : v.getP q = some z)
    (hq : ∀ i q', q = p ++ i :: q' → l[i]? = d.row[i]?) : ∃ z', (v.setP p (d.withRow l)).getP q = some z' ∧ z'.head = z.head := by
  cases p with
  | nil => simp [SV.getP] at hd
  | cons j p =>
    cases q with
    | nil => simp [SV.getP] at hz
    | cons i q =>
      obtain ⟨x, hx, hxd⟩ := getP_cell hd
      obtain ⟨x2, hx2, hz2⟩ := getP_cell hz
      have hlj : j < v.cs.length := (List.getElem?_eq_some_iff.1 hx).1
      have e : v.setP (j :: p) (d.withRow l) = ⟨v.k, v.cs.set j (.c (x.setC p (d.withRow l)))⟩ := by simp only [SV.setP, hx]
      rw [e]
      by_cases hij : j = i
      · subst hij
        rw [hx] at hx2
        cases hx2
        obtain ⟨z', h1, h2⟩ := getC_setRow p q x d z l hxd ho hl hz2 (fun i q' h => hq i q' (by rw [h]; rfl))
        exact ⟨z', by simp [SV.getP, List.getElem?_set, hlj, h1], h2⟩
      · exact ⟨z, by simp [SV.getP, List.getElem?_set, hij, hx2, hz2], rfl⟩

theorem isDead_own {c : GC} (h : c.isOwn = true) : c.isDead = false := by cases c <;> simp_all [Cell.isOwn, Cell.isDead]

/-- WRITING a row of a slot's tree. -/
theorem Inv.rewrite {w0 : W0} {w w' : World} {Γ : St Gh} {ys xs : List GC} {tm : Array Value} (h : Inv w0 Γ (ys ++ xs) tm w) {r : Nat} {p : List Nat} {d : GC} {l : List GC} {a : Addr}
    (hd : (Γ.get r).getP p = some d) (ho : d.isOwn = true) (ha : d.gh.a = some a) (hl : l.length = d.row.length) (hO : Only w w' a.block)
    (hc : ∀ i, l[i]? = d.row[i]? ∨ Clear Γ r (p ++ [i]))
    (hv : ∀ (i : Nat) (x : GC), l[i]? = some x → ∃ v, w'.cell? (a.add i) = some v ∧ (x.isDead = true ∨ v = x.val))
    (hr : ∀ x ∈ l, x ∈ d.row ∨ x ∈ ys) (hf : ∃ D, (footL l ++ D).Perm (footL d.row ++ footL ys)) :
    Inv w0 (Γ.put r ((Γ.get r).setP p (d.withRow l))) xs tm w' := by
  obtain ⟨D, hD⟩ := hf
  have hN : (footL ys ++ footL xs).Nodup := by have := h.nodP; rwa [footL_append] at this
  have hpool := h.pool
  rw [holdsL_iff] at hpool
  cases p with
  | nil => simp [SV.getP] at hd
  | cons j q =>
  obtain ⟨x0, hx0, hx0d⟩ := getP_cell hd
  have hx0h : holds w w0.zn x0 := h.hold r (.c x0) (List.mem_of_getElem? hx0)
  have hdh : holds w w0.zn d := getC_holds q x0 d hx0d hx0h
  have hB : w0.zn.has a.block := (own_base hdh ho ha).2.1
  have hBd : a.block ∈ foot d := blockOf_own ho ha
  have hBx0 : a.block ∈ foot x0 := getC_foot q x0 d hx0d _ hBd
  have hBr : a.block ∈ footV (Γ.get r) := mem_footL.2 ⟨x0, List.mem_map.2 ⟨.c x0, List.mem_of_getElem? hx0, rfl⟩, hBx0⟩
  have hBys : a.block ∉ footL (ys ++ xs) := h.disP r _ hBr
  have hBys' : a.block ∉ footL ys ∧ a.block ∉ footL xs := by rw [footL_append] at hBys; simpa using hBys
  have hlj : j < (Γ.get r).cs.length := (List.getElem?_eq_some_iff.1 hx0).1
  have hset : (Γ.get r).setP (j :: q) (d.withRow l) = ⟨(Γ.get r).k, (Γ.get r).cs.set j (.c (x0.setC q (d.withRow l)))⟩ := by simp only [SV.setP, hx0]
  -- footprints
  have hperm : (footV ((Γ.get r).setP (j :: q) (d.withRow l)) ++ D).Perm (footV (Γ.get r) ++ footL ys) := by
    have h1 := footV_setP (y' := d.withRow l) hd
    rw [foot_withRow l ho, foot_row d] at h1
    generalize footV ((Γ.get r).setP (j :: q) (d.withRow l)) = F' at h1 ⊢
    generalize footV (Γ.get r) = F at h1 ⊢
    generalize blockOf d.isOwn d.gh = b at h1
    -- F' ++ (b ++ dr) ~ F ++ (b ++ fl)
    have h2 : (F' ++ footL d.row).Perm (F ++ footL l) := by
      have e1 : (F' ++ (b ++ footL d.row)).Perm (b ++ (F' ++ footL d.row)) := by
        rw [← List.append_assoc, ← List.append_assoc]; exact List.Perm.append_right _ List.perm_append_comm
      have e2 : (F ++ (b ++ footL l)).Perm (b ++ (F ++ footL l)) := by
        rw [← List.append_assoc, ← List.append_assoc]; exact List.Perm.append_right _ List.perm_append_comm
      exact (List.perm_append_left_iff _).1 (e1.symm.trans (h1.trans e2))
    -- F' ++ dr ++ D ~ F ++ fl ++ D ~ F ++ dr ++ ys
    have h3 : (F' ++ footL d.row ++ D).Perm (F ++ (footL d.row ++ footL ys)) := by
      refine (List.Perm.append_right D h2).trans ?_
      rw [List.append_assoc]
      exact List.Perm.append_left _ hD
    have h4 : (footL d.row ++ (F' ++ D)).Perm (footL d.row ++ (F ++ footL ys)) := by
      refine List.Perm.trans ?_ (h3.trans ?_)
      · rw [← List.append_assoc]; exact List.Perm.append_right _ List.perm_append_comm
      · rw [← List.append_assoc, ← List.append_assoc]; exact List.Perm.append_right _ List.perm_append_comm
    exact (List.perm_append_left_iff _).1 h4
  have hNr : (footV (Γ.get r) ++ footL ys).Nodup := by
    refine List.nodup_append.2 ⟨h.nod r, (List.nodup_append.1 hN).1, ?_⟩
    intro b hb c hc hbc
    subst hbc
    exact h.disP r b hb (by rw [footL_append]; simp [hc])
  have hnew : (footV ((Γ.get r).setP (j :: q) (d.withRow l))).Nodup := (List.nodup_append.1 (hperm.nodup_iff.2 hNr)).1
  have hsub : ∀ b, b ∈ footV ((Γ.get r).setP (j :: q) (d.withRow l)) → b ∈ footV (Γ.get r) ∨ b ∈ footL ys := by
    intro b hb
    have := hperm.mem_iff.1 (List.mem_append.2 (.inl hb))
    simpa using this
  -- heads
  have hh : ∀ s x, x ∈ (Γ.get s).cs → ∀ u, scRel Γ x u → scRel (Γ.put r ((Γ.get r).setP (j :: q) (d.withRow l))) x u := by
    intro s x hx u hu
    refine scRel_head hu ?_
    intro r' qq z hroot hform hz
    rw [get_put]
    split
    · next e =>
      subst e
      refine getP_setRow hd ho hl hz ?_
      intro i q' hqq
      rcases hc i with hc | hc
      · exact hc
      · have := clear_path hc hx hform
        rw [hqq] at this
        exfalso
        have ht : ((j :: q) ++ [i]).isPrefixOf ((j :: q) ++ i :: q') = true := by
          rw [List.isPrefixOf_iff_prefix]
          exact ⟨q', by simp⟩
        rw [ht] at this
        cases this
    · exact ⟨z, hz, rfl⟩
  have hdead : d.isDead = false := isDead_own ho
  -- the new row's cells
  have hdn : (foot d).Nodup := by
    have hp := footV_setP (y' := .dead) hd
    simp only [foot, List.append_nil] at hp
    exact (List.nodup_append.1 (hp.nodup_iff.2 (h.nod r))).2.1
  have hBrow : a.block ∉ footL d.row := by
    rw [foot_row] at hdn
    intro hb
    exact (List.nodup_append.1 hdn).2.2 a.block (by simp [blockOf, ho, ha]) a.block hb rfl
  have hlh : holdsL w' w0.zn l := by
    rw [holdsL_iff]
    intro x hx
    rcases hr x hx with hx' | hx'
    · exact holds_only hO hB (fun hb => hBrow (mem_footL.2 ⟨x, hx', hb⟩)) (holdsL_iff.1 (holds_row hdh) x hx')
    · exact holds_only hO hB (fun hb => hBys'.1 (mem_footL.2 ⟨x, hx', hb⟩)) (hpool x (by simp [hx']))
  have hdr : holds w' w0.zn (d.withRow l) := holds_rewrite hdh ho ha hO hl hv hlh
  have hx0n : (foot x0).Nodup := by
    have hp := footL_map_set (z := .dead) hx0
    simp only [foot, List.append_nil] at hp
    exact (List.nodup_append.1 (hp.nodup_iff.2 (h.nod r))).2.1
  have hx0' : holds w' w0.zn (x0.setC q (d.withRow l)) := holds_deep q x0 d l hx0d ho ha hx0h hx0n hO hB hdr hl
  have honly : ∀ s x, x ∈ (Γ.get s).cs → a.block ∉ foot x.cell → scHolds w' w0.zn x := fun s x hx hy => sc_only hO hB hy (h.hold s x hx)
  refine ⟨h.below.trans (hO.below hB), ?_, ?_, ?_, ?_, ?_, ?_, ?_⟩
  · intro s
    obtain ⟨vs, h1, h2⟩ := h.rel s
    rw [get_put]
    split
    · next e =>
      subst e
      rw [hset]
      refine ⟨vs, ?_, h2⟩
      refine rels_mono h1 (by simp) ?_
      intro i x x' u hx hx' hu
      rw [List.getElem?_set] at hx'
      split at hx'
      · next hji =>
        subst hji
        rw [hx0] at hx
        cases hx
        simp only [hlj, if_true, Option.some.injEq] at hx'
        subst hx'
        have hhead : (x0.setC q (d.withRow l)).head = x0.head := by
          cases q with
          | nil =>
            simp only [Cell.getC, Option.some.injEq] at hx0d
            subst hx0d
            exact withRow_head hl
          | cons i q => exact setC_head _ _ _ (by simp)
        have ho0 : x0.isOwn = true := by
          cases q with
          | nil => simp only [Cell.getC, Option.some.injEq] at hx0d; subst hx0d; exact ho
          | cons i q => exact (getC_cons hx0d).1
        rcases hu with hu | hu
        · rw [isDead_own ho0] at hu; cases hu
        · exact .inr (by rw [hu, head_val hhead.symm ho0])
      · rw [hx] at hx'
        cases hx'
        have := hh s x (List.mem_of_getElem? hx) u hu
        rw [hset] at this
        exact this
    · exact ⟨vs, rels_mono h1 rfl (fun i x x' u hx hx' hu => by rw [hx] at hx'; cases hx'; exact hh s x (List.mem_of_getElem? hx) u hu), h2⟩
  · intro s x hx
    rw [get_put] at hx
    split at hx
    · next e =>
      subst e
      rw [hset] at hx
      obtain ⟨i, hi, hxi⟩ := List.mem_iff_getElem.1 hx
      have hx' : ((Γ.get s).cs.set j (.c (x0.setC q (d.withRow l))))[i]? = some x := by
        have := List.getElem?_eq_getElem hi
        rw [this, hxi]
      rw [List.getElem?_set] at hx'
      split at hx'
      · simp only [hlj, if_true, Option.some.injEq] at hx'
        subst hx'
        exact hx0'
      · next hji =>
        refine honly s x (List.mem_of_getElem? hx') ?_
        refine footL_nodup_get (h.nod s) (i := j) (j := i) (x := x0) (by simp [hx0, SC.cell]) (by simp [hx']) hji hBx0
    · next e =>
      refine honly s x hx ?_
      intro hb
      exact e (h.dis s r a.block (mem_footL.2 ⟨x.cell, List.mem_map.2 ⟨_, hx, rfl⟩, hb⟩) hBr)
  · rw [holdsL_iff]
    intro c hc
    exact holds_only hO hB (fun hb => hBys'.2 (mem_footL.2 ⟨c, hc, hb⟩)) (hpool c (by simp [hc]))
  · intro s
    rw [get_put]
    split
    · exact hnew
    · exact h.nod s
  · intro s t b hs ht
    rw [get_put] at hs ht
    split at hs
    · next e =>
      split at ht
      · next e' => rw [e, e']
      · next e' =>
        rcases hsub b hs with hs | hs
        · exact absurd (h.dis t r b ht hs) e'
        · exact absurd (by rw [footL_append]; simp [hs]) (h.disP t b ht)
    · next e =>
      split at ht
      · rcases hsub b ht with ht | ht
        · exact absurd (h.dis s r b hs ht) e
        · exact absurd (by rw [footL_append]; simp [ht]) (h.disP s b hs)
      · exact h.dis s t b hs ht
  · exact (List.nodup_append.1 hN).2.1
  · intro s b hb
    rw [get_put] at hb
    split at hb
    · rcases hsub b hb with hb | hb
      · exact fun hm => h.disP r b hb (by rw [footL_append]; simp [hm])
      · exact fun hm => (List.nodup_append.1 hN).2.2 b hb b hm rfl
    · exact fun hm => h.disP s b hb (by rw [footL_append]; simp [hm])

/-- GROWING in its place: what is written behind a row that was taken out. -/
theorem Inv.extend {w0 : W0} {w w' : World} {Γ : St Gh} {ys xs : List GC} {tm : Array Value} {sz : Nat} {g : Gh} {row news : List GC} {a : Addr} (h : Inv w0 Γ (.sl true sz g row :: ys ++ xs) tm w)
    (ha : g.a = some a) (hm : (row ++ news).length % sz = 0) (hc : (row ++ news).length / sz ≤ g.cap) (hO : Only w w' a.block)
    (hv : ∀ (i : Nat) (x : GC), (row ++ news)[i]? = some x → ∃ v, w'.cell? (a.add i) = some v ∧ (x.isDead = true ∨ v = x.val))
    (hr : ∀ x ∈ news, x ∈ ys) (hf : (footL news).Perm (footL ys)) : Inv w0 Γ (.sl true sz g (row ++ news) :: xs) tm w' := by
  have hpool := h.pool
  simp only [List.cons_append, holdsL] at hpool
  obtain ⟨hy, hrest⟩ := hpool
  rw [holdsL_iff] at hrest
  have hB : w0.zn.has a.block := (own_base hy rfl (a := a) ha).2.1
  have hN := h.nodP
  simp only [List.cons_append, footL, footL_append] at hN
  have hBy : a.block ∈ foot (.sl true sz g row) := blockOf_own rfl ha
  obtain ⟨n1, n2, n3⟩ := List.nodup_append.1 hN
  have hBys : a.block ∉ footL ys ++ footL xs := fun hb => n3 _ hBy _ hb rfl
  simp only [List.mem_append, not_or] at hBys
  have hBrow : a.block ∉ footL row := by
    simp only [foot] at n1
    intro hb
    exact (List.nodup_append.1 n1).2.2 a.block (by simp [blockOf, ha]) a.block hb rfl
  have hslot : ∀ s, a.block ∉ footV (Γ.get s) := fun s hb => h.disP s _ hb (by simp only [List.cons_append, footL]; exact List.mem_append.2 (.inl hBy))
  have hy' : holds w' w0.zn (.sl true sz g (row ++ news)) := by
    obtain ⟨h1, h2, h3⟩ := hy
    refine ⟨⟨h1.1, hm, hc, by simp⟩, ?_, ?_⟩
    · rw [ha] at h2 ⊢
      obtain ⟨a1, a2, a3⟩ := h2
      simp only [if_true] at a3
      obtain ⟨b1, b2, cs, e, b3, b4⟩ := a3
      obtain ⟨cs', d1, d2⟩ := hO.block cs e b3
      refine ⟨fun _ => a1 (.inl rfl), hv, ?_⟩
      simp only [if_true]
      refine ⟨b1, ?_, cs', e, d2, by omega⟩
      have := Nat.div_add_mod (row ++ news).length sz
      rw [hm] at this
      have := Nat.mul_le_mul_left sz hc
      rw [Nat.mul_comm g.cap sz]
      omega
    · rw [holdsL_iff]
      intro x hx
      rcases List.mem_append.1 hx with hx | hx
      · exact holds_only hO hB (fun hb => hBrow (mem_footL.2 ⟨x, hx, hb⟩)) (holdsL_iff.1 h3 x hx)
      · exact holds_only hO hB (fun hb => hBys.1 (mem_footL.2 ⟨x, hr x hx, hb⟩)) (hrest x (by simp [hr x hx]))
  have hfoot : (foot (.sl true sz g (row ++ news)) ++ footL xs).Perm (foot (.sl true sz g row) ++ (footL ys ++ footL xs)) := by
    simp only [foot, footL_append, List.append_assoc]
    refine List.Perm.append_left _ (List.Perm.append_left _ ?_)
    exact List.Perm.append_right _ hf
  refine ⟨h.below.trans (hO.below hB), h.rel, ?_, ⟨hy', ?_⟩, h.nod, h.dis, ?_, ?_⟩
  · intro s x hx
    exact sc_only hO hB (fun hb => hslot s (mem_footL.2 ⟨x.cell, List.mem_map.2 ⟨_, hx, rfl⟩, hb⟩)) (h.hold s x hx)
  · rw [holdsL_iff]
    intro c hc
    exact holds_only hO hB (fun hb => hBys.2 (mem_footL.2 ⟨c, hc, hb⟩)) (hrest c (by simp [hc]))
  · simp only [footL]
    exact hfoot.nodup_iff.2 hN
  · intro s b hb hm'
    simp only [footL] at hm'
    refine h.disP s b hb ?_
    simp only [List.cons_append, footL, footL_append]
    exact hfoot.mem_iff.1 hm'
end Go.Proofs.Ytnmocjhpbobahaa.L
