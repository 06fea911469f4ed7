/- M21: calls; what each operation's run shows. MC: a row that is made of windows of another slot's rows. M22: every operation that is covered does on the machine what it does on the trees. M23: regions in order; forgetting. M24: the code's control, and whole functions. M25: from the trees' answer to a function's contract. -/
import Derived.Test.YtnmocjhpbobahaaQ3
import Derived.Scope
set_option linter.unusedVariables false
set_option linter.unusedSimpArgs false
set_option linter.unnecessarySimpa false
namespace Go.Proofs.Ytnmocjhpbobahaa.L
open Go Go.RowKit

/-- A value with its cells, laid bare. -/
def bare (k : Kd) (cs : List GC) : SV Unit := ⟨k, cs.map fun c => .c c.erase⟩
/-- A FUNCTION's CONTRACT: called with what reads as 'as' (frozen), it answers what reads as r, all its own; nothing that was there has turned. -/
def Good (P : Program) (f : FuncId) (as : List (SV Unit)) (r : SV Unit) : Prop :=
  (∃ fn, P.funcs[f]? = some fn ∧ fn.body.isSome = true ∧ (fn.name == "runtime.NumGoroutine") = false) ∧ ∀ (w : World) (gs : List (Kd × List GC)), gs.map (fun g => bare g.1 g.2) = as → (∀ g ∈ gs, holdsL w ⟨w.heap.size, []⟩ g.2 ∧ footL g.2 = [] ∧ ∀ c ∈ g.2, c.isDead = false) →
    Calls P f (gs.map fun g => pack g.1 (g.2.map Cell.val)).toArray w fun e w' => ∃ k cs, bare k cs = r ∧ e = .returned (pack k (cs.map Cell.val)) ∧ Below w.heap.size w w' ∧ holdsL w' ⟨w.heap.size, []⟩ cs ∧ (footL cs).Nodup ∧ ∀ c ∈ cs, c.isDead = false
/-- The same, of a function that is lent its first argument (a tree that is owned through and through): it comes back changed, with its head; nothing else that was there has turned. R: what is lent, and the answer's cells. -/
def GoodL (P : Program) (f : FuncId) (y : Cell Unit) (as : List (SV Unit)) (R : SV Unit) : Prop :=
  (∃ fn, P.funcs[f]? = some fn ∧ fn.body.isSome = true ∧ (fn.name == "runtime.NumGoroutine") = false) ∧ ∀ (w : World) (g : GC) (gs : List (Kd × List GC)), g.erase = y → g.isOwn = true → g.allOwn = true → gs.map (fun g => bare g.1 g.2) = as →
    holds w ⟨w.heap.size, foot g⟩ g → (foot g).Nodup → (∀ x ∈ gs, holdsL w ⟨w.heap.size, foot g⟩ x.2 ∧ footL x.2 = [] ∧ ∀ c ∈ x.2, c.isDead = false) →
    Calls P f (g.val :: gs.map fun g => pack g.1 (g.2.map Cell.val)).toArray w fun e w' => ∃ k l cs, bare k (g.withRow l :: cs) = R ∧ l.length = g.row.length ∧ e = .returned (pack k (cs.map Cell.val)) ∧ Bel ⟨w.heap.size, foot g⟩ w w' ∧
      holdsL w' ⟨w.heap.size, foot g⟩ (g.withRow l :: cs) ∧ (footL (g.withRow l :: cs)).Nodup ∧ ∀ c ∈ cs, c.isDead = false
def lentOf : List (SV Unit) → Option (Cell Unit × List (SV Unit))
  | v :: l => match v.k, v.cs with
    | .one, [.c y] => if y.isOwn then some (y, l) else none
    | _, _ => none
  | [] => none
def GoodE (P : Program) (f : FuncId) (as : List (SV Unit)) (r : SV Unit) : Prop := match lentOf as with
  | some (y, l) => GoodL P f y l r
  | none => Good P f as r
def EnvOk (P : Program) (E : Env) : Prop := ∀ f as r, E f as = some r → GoodE P f as r

mutual
theorem freeze_erase : ∀ c : GC, c.freeze.erase = c.erase.freeze
  | .sc v => by simp [Cell.freeze, Cell.erase]
  | .sl o sz g row => by simp [Cell.freeze, Cell.erase, freezeL_erase row]
  | .bx o g row => by simp [Cell.freeze, Cell.erase, freezeL_erase row]
  | .dead => by simp [Cell.freeze, Cell.erase]
theorem freezeL_erase : ∀ l : List GC, eraseL (freezeL l) = freezeL (eraseL l)
  | [] => rfl
  | c :: l => by simp [freezeL, eraseL, freeze_erase c, freezeL_erase l]
end
mutual
theorem freeze_foot : ∀ c : GC, foot c.freeze = []
  | .sc v => by simp [Cell.freeze, foot]
  | .sl o sz g row => by simp [Cell.freeze, foot, blockOf, freezeL_foot row]
  | .bx o g row => by simp [Cell.freeze, foot, blockOf, freezeL_foot row]
  | .dead => by simp [Cell.freeze, foot]
theorem freezeL_foot : ∀ l : List GC, footL (freezeL l) = []
  | [] => rfl
  | c :: l => by simp [freezeL, footL, freeze_foot c, freezeL_foot l]
end
@[simp] theorem freezeL_length (l : List GC) : (freezeL l).length = l.length := by rw [freezeL_eq]; simp
theorem freeze_val (c : GC) : c.freeze.val = c.val := by cases c <;> simp [Cell.freeze, Cell.val]
theorem freeze_dead (c : GC) : c.freeze.isDead = c.isDead := by cases c <;> simp [Cell.freeze, Cell.isDead]
theorem base_freeze {w : World} {n0 : Zn} {S : List Nat} (hn : n0.n ≤ w.heap.size) (hd : ∀ b ∈ S, n0.has b) {o : Bool} {a : Option Addr} {g : Gh} {room : Nat} {row : List GC} (hg : g.a = a) (hS : ∀ b ∈ blockOf o g, b ∉ S) (h : base w n0 o a room row) : base w ⟨w.heap.size, S⟩ false a room (freezeL row) := by
  cases a with
  | none => obtain ⟨h1, h2⟩ := h; subst h1; exact ⟨rfl, h2⟩
  | some a =>
    obtain ⟨h1, h2, h3⟩ := h
    refine ⟨fun hd => h1 (.inr (fun e => hd.resolve_left (by simp) (by rw [e]; rfl))), ?_, ?_⟩
    · intro i c hc
      rw [freezeL_eq, List.getElem?_map] at hc
      cases hx : row[i]? with
      | none => rw [hx] at hc; cases hc
      | some x =>
        rw [hx] at hc
        simp only [Option.map_some, Option.some.injEq] at hc
        subst hc
        rw [freeze_dead, freeze_val]
        exact h2 i x hx
    · simp only [Bool.false_eq_true, if_false]
      intro hne hz
      have hrow : row ≠ [] := by intro e; subst e; exact hne rfl
      cases o with
      | false =>
        have := h3; simp only [Bool.false_eq_true, if_false] at this
        have hb := this hrow
        rcases hz with hz | hz
        · have := Zn.old hb; simp only at hz; omega
        · exact hb (hd _ hz)
      | true =>
        simp only [if_true] at h3
        obtain ⟨_, _, cs, e, h4, _⟩ := h3
        rcases hz with hz | hz
        · simp only at hz
          simp [Array.getElem?_eq_none hz] at h4
        · exact hS _ (by simp [blockOf, hg]) hz
mutual
theorem holds_freeze {w : World} {n0 : Zn} {S : List Nat} (hn : n0.n ≤ w.heap.size) (hd : ∀ b ∈ S, n0.has b) : ∀ c : GC, (∀ b ∈ foot c, b ∉ S) → holds w n0 c → holds w ⟨w.heap.size, S⟩ c.freeze
  | .sc v, _, h => by simp only [Cell.freeze]; exact h
  | .dead, _, _ => by simp only [Cell.freeze]; trivial
  | .sl o sz g row, hS, h => by
    simp only [Cell.freeze]
    obtain ⟨h1, h2, h3⟩ := h
    refine ⟨⟨h1.1, by rw [freezeL_length]; exact h1.2.1, by rw [freezeL_length]; exact h1.2.2.1, fun _ => freezeL_foot row⟩, base_freeze hn hd rfl (fun b hb => hS b (by simp [foot, hb])) h2, holdsL_freeze hn hd row (fun b hb => hS b (by simp [foot, hb])) h3⟩
  | .bx o g row, hS, h => by
    simp only [Cell.freeze]
    obtain ⟨h1, h2, h3⟩ := h
    refine ⟨⟨h1.1, fun _ => freezeL_foot row⟩, ?_, holdsL_freeze hn hd row (fun b hb => hS b (by simp [foot, hb])) h3⟩
    have := base_freeze hn hd rfl (fun b hb => hS b (by simp [foot, hb])) h2
    rw [freezeL_length]
    exact this
theorem holdsL_freeze {w : World} {n0 : Zn} {S : List Nat} (hn : n0.n ≤ w.heap.size) (hd : ∀ b ∈ S, n0.has b) : ∀ l : List GC, (∀ b ∈ footL l, b ∉ S) → holdsL w n0 l → holdsL w ⟨w.heap.size, S⟩ (freezeL l)
  | [], _, _ => trivial
  | c :: l, hS, h => ⟨holds_freeze hn hd c (fun b hb => hS b (by simp [footL, hb])) h.1, holdsL_freeze hn hd l (fun b hb => hS b (by simp [footL, hb])) h.2⟩
end

theorem getP_foot {v : SV Gh} {p : List Nat} {y : GC} (h : v.getP p = some y) : ∀ b ∈ foot y, b ∈ footV v := by
  cases p with
  | nil => simp [SV.getP] at h
  | cons j q =>
    obtain ⟨x0, hx0, hx0d⟩ := getP_cell h
    exact fun b hb => mem_footL.2 ⟨x0, List.mem_map.2 ⟨.c x0, List.mem_of_getElem? hx0, rfl⟩, getC_foot q x0 y hx0d _ hb⟩
/-- One argument. -/
theorem argSC0_ok {w0 : W0} {w : World} {Γ : St Gh} {xs : List GC} {tm : Array Value} (h : Inv w0 Γ xs tm w) {S : List Nat} (hz : ∀ b ∈ S, w0.zn.has b) (hS : ∀ s, ∀ b ∈ footV (Γ.get s), b ∉ S) {x : SC Gh} {a : SC Unit} {u : Value} (hx : argSC0 Γ x = some a) (hu : scRel Γ x u) (hh : scHolds w w0.zn x) (hxf : ∀ b ∈ foot x.cell, b ∉ S) :
    ∃ c : GC, a = .c c.erase ∧ holds w ⟨w.heap.size, S⟩ c ∧ foot c = [] ∧ c.isDead = false ∧ c.val = u ∧ c.isOwn = false := by
  have hn : w0.zn.n ≤ w.heap.size := h.below.size
  have key : ∀ y : GC, (∀ b ∈ foot y, b ∉ S) → holds w w0.zn y → y.isDead = false → y.val = u → a = .c y.erase.freeze → ∃ c : GC, a = .c c.erase ∧ holds w ⟨w.heap.size, S⟩ c ∧ foot c = [] ∧ c.isDead = false ∧ c.val = u ∧ c.isOwn = false :=
    fun y h0 h1 h2 h3 h4 => ⟨y.freeze, by rw [freeze_erase]; exact h4, holds_freeze hn hz y h0 h1, freeze_foot y, by rw [freeze_dead]; exact h2, by rw [freeze_val]; exact h3, by cases y <;> simp [Cell.freeze, Cell.isOwn]⟩
  cases x with
  | c y =>
    have hd : y.isDead = false := by cases y <;> simp_all [argSC0, Cell.isDead]
    refine key y hxf hh hd ?_ ?_
    · rcases hu with hu | hu
      · rw [hd] at hu; cases hu
      · exact hu.symm
    · cases y <;> simp_all [argSC0, Cell.isDead]
  | view r p =>
    obtain ⟨y, h1, h2, h3⟩ := hu
    simp only [argSC0, h1, h2, if_true, Option.some.injEq] at hx
    exact key y (fun b hb => hS r b (getP_foot h1 b hb)) (h.cell h1) (isDead_own h2) h3.symm hx.symm
  | win r p lo n f =>
    obtain ⟨y, h1, sz, g, len, h2, h3, h4, h5, h6⟩ := hu
    simp only [argSC0, h1] at hx
    have hyh := h.cell h1
    have hyf := getP_foot h1
    cases y with
    | sl o sz' g' row =>
      simp only [Cell.head, Prod.mk.injEq, true_and] at h2
      obtain ⟨rfl, rfl, rfl, rfl⟩ := h2
      simp only [h3, if_true, Option.some.injEq] at hx
      obtain ⟨a', cap', hv, w1, w2, w3, w4⟩ := h6
      obtain ⟨n1, ⟨D, n2⟩, n3⟩ := narrow (full := f) hyh h3 h4 h5 w1 w3 w4
      refine ⟨(Cell.sl true sz' ⟨a', cap'⟩ ((row.drop lo).take n)).freeze, ?_, holds_freeze hn hz _ (fun b hb => hS r b (hyf b (n2.mem_iff.1 (by simp [hb])))) n1, freeze_foot _, rfl, by rw [freeze_val, n3, hv], by simp [Cell.freeze, Cell.isOwn]⟩
      rw [← hx]
      simp [Cell.freeze, Cell.erase, freezeL_erase]
    | _ => simp [Cell.head] at h2
  | ref r p off m =>
    cases m with
    | none => simp [argSC0] at hx
    | some z =>
      obtain ⟨y, h1, h2, ad, h3, h4⟩ := hu
      simp only [argSC0, h1] at hx
      split at hx
      · next hc =>
        simp only [Option.some.injEq] at hx
        subst hx
        obtain ⟨_, hle, hsz⟩ := hc
        have hyh := h.cell h1
        have hyf := getP_foot h1
        obtain ⟨hsp, hB, room, hr1, _, cs, e, hcs, hroom⟩ := own_base hyh h2 h3
        have hmem : ∀ x ∈ (y.row.drop off).take (z.1 * z.2), x ∈ y.row := fun x hx => List.mem_of_mem_drop (List.mem_of_mem_take hx)
        have hlen : ((y.row.drop off).take (z.1 * z.2)).length = z.1 * z.2 := by rw [List.length_take, List.length_drop]; omega
        have hsubS : ∀ b ∈ footL ((y.row.drop off).take (z.1 * z.2)), b ∉ S := by
          intro b hb
          obtain ⟨x, hx, hbx⟩ := mem_footL.1 hb
          refine hS r b (hyf b ?_)
          rw [foot_row]
          exact List.mem_append.2 (.inr (mem_footL.2 ⟨x, hmem x hx, hbx⟩))
        have hblk : (ad.add off).block = ad.block := by unfold Addr.add; split <;> rfl
        refine ⟨.sl false z.2 ⟨some (ad.add off), z.1⟩ (freezeL ((y.row.drop off).take (z.1 * z.2))), ?_, ⟨⟨hsz, ?_, ?_, fun _ => freezeL_foot _⟩, ⟨fun _ => ?_, ?_, ?_⟩, holdsL_freeze hn hz _ hsubS ?_⟩, ?_, rfl, ?_, rfl⟩
        · simp only [Cell.erase, freezeL_erase]
        · rw [freezeL_length, hlen]; exact Nat.mul_mod_left _ _
        · rw [freezeL_length, hlen, Nat.mul_div_cancel _ hsz]; exact Nat.le_refl _
        · unfold Addr.add; split
          · exact hsp
          · rfl
        · intro i c hi
          rw [freezeL_eq, List.getElem?_map] at hi
          cases hx : ((y.row.drop off).take (z.1 * z.2))[i]? with
          | none => rw [hx] at hi; cases hi
          | some x =>
            rw [hx] at hi
            simp only [Option.map_some, Option.some.injEq] at hi
            subst hi
            have hx2 : y.row[off + i]? = some x := by
              rw [List.getElem?_take] at hx
              split at hx
              · rw [List.getElem?_drop] at hx; exact hx
              · cases hx
            obtain ⟨a', ha', _, v, hv1, hv2⟩ := base_cell hyh hx2
            rw [h3] at ha'; cases ha'
            rw [freeze_dead, freeze_val, add_add hsp]
            exact ⟨v, hv1, hv2⟩
        · simp only [Bool.false_eq_true, if_false]
          intro _ hzz
          rw [hblk] at hzz
          rcases hzz with hzz | hzz
          · simp only at hzz
            simp [Array.getElem?_eq_none hzz] at hcs
          · exact hS r _ (hyf _ (blockOf_own h2 h3)) hzz
        · rw [holdsL_iff]
          intro x hx
          exact holdsL_iff.1 (holds_row hyh) x (hmem x hx)
        · simp [foot, blockOf, freezeL_foot]
        · rw [h4]
          simp only [Cell.val, freezeL_length, hlen, Nat.mul_div_cancel _ hsz, refVal]
      · cases hx
  | _ => simp [argSC0] at hx
theorem partSc_rel {Γ : St Gh} {r : Nat} {q : Part} {u : Value} (h : partRel Γ r q u) : scRel Γ (q.sc r) u := by cases q <;> exact h
/-- What a cut's row is as an argument. -/
def CutOk (w : World) (z : Zn) (a : Addr) (R : List GC) : Prop := holdsL w z R ∧ footL R = [] ∧ ∀ i c, R[i]? = some c → ∃ v, w.cell? (a.add i) = some v ∧ (c.isDead = true ∨ v = c.val)
theorem cutRow_ok {w0 : W0} {w : World} {Γ : St Gh} {xs : List GC} {tm : Array Value} (h : Inv w0 Γ xs tm w) {S : List Nat} (hz : ∀ b ∈ S, w0.zn.has b) (hS : ∀ s, ∀ b ∈ footV (Γ.get s), b ∉ S) {r : Nat} {a : Addr} :
    ∀ (ws : List (Nat × Part × GC)) (R : List GC) (row' : List (Cell Unit)), (∀ e ∈ ws, partRel Γ r e.2.1 e.2.2.val ∧ w.cell? (a.add e.1) = some e.2.2.val) → cutRow Γ r (eraseL R) ws = some row' → CutOk w ⟨w.heap.size, S⟩ a R →
      ∃ R', eraseL R' = row' ∧ CutOk w ⟨w.heap.size, S⟩ a R' ∧ R'.length = R.length
  | [], R, row', _, hr, hR => by
    simp only [cutRow, Option.some.injEq] at hr
    exact ⟨R, hr, hR, rfl⟩
  | e :: ws, R, row', he, hr, hR => by
    simp only [cutRow] at hr
    split at hr
    · next c hc =>
      obtain ⟨p1, p2⟩ := he e (by simp)
      obtain ⟨c', b1, b2, b3, b4, b5, b6⟩ := argSC0_ok h hz hS hc (partSc_rel p1) (by cases e.2.1 <;> trivial) (by cases e.2.1 <;> simp [Part.sc, SC.cell, foot])
      simp only [SC.c.injEq] at b1
      subst b1
      have e1 : eraseL (R.set e.1 c') = (eraseL R).set e.1 c'.erase := by rw [eraseL_eq, eraseL_eq, List.map_set]
      rw [← e1] at hr
      obtain ⟨h1, h2, h3⟩ := hR
      have hk : CutOk w ⟨w.heap.size, S⟩ a (R.set e.1 c') := by
        refine ⟨?_, ?_, ?_⟩
        · rw [holdsL_iff] at h1 ⊢
          intro x hx
          rcases List.mem_or_eq_of_mem_set hx with hx | rfl
          · exact h1 x hx
          · exact b2
        · rw [List.eq_nil_iff_forall_not_mem]
          intro b hb
          obtain ⟨x, hx, hbx⟩ := mem_footL.1 hb
          rcases List.mem_or_eq_of_mem_set hx with hx | rfl
          · have : b ∈ footL R := mem_footL.2 ⟨x, hx, hbx⟩
            rw [h2] at this; cases this
          · rw [b3] at hbx; cases hbx
        · intro i c hi
          rw [List.getElem?_set] at hi
          split at hi
          · next hei =>
            subst hei
            split at hi
            · simp only [Option.some.injEq] at hi
              subst hi
              exact ⟨_, p2, .inr b5.symm⟩
            · cases hi
          · exact h3 i c hi
      obtain ⟨R', c1, c2, c3⟩ := cutRow_ok h hz hS ws _ row' (fun e he' => he e (by simp [he'])) hr hk
      exact ⟨R', c1, c2, by rw [c3]; simp⟩
    · cases hr
theorem argSC_ok {w0 : W0} {w : World} {Γ : St Gh} {xs : List GC} {tm : Array Value} (h : Inv w0 Γ xs tm w) {S : List Nat} (hz : ∀ b ∈ S, w0.zn.has b) (hS : ∀ s, ∀ b ∈ footV (Γ.get s), b ∉ S) {x : SC Gh} {a : SC Unit} {u : Value} (hx : argSC Γ x = some a) (hu : scRel Γ x u) (hh : scHolds w w0.zn x) (hxf : ∀ b ∈ foot x.cell, b ∉ S) :
    ∃ c : GC, a = .c c.erase ∧ holds w ⟨w.heap.size, S⟩ c ∧ foot c = [] ∧ c.isDead = false ∧ c.val = u ∧ c.isOwn = false := by
  cases x with
  | cut r x ws =>
    cases x with
    | sl o sz g row =>
      cases o with
      | false => simp [argSC] at hx
      | true =>
        simp only [argSC] at hx
        obtain ⟨hu1, hu2⟩ := hu
        obtain ⟨hh1, _, hh3⟩ := hh
        have hn : w0.zn.n ≤ w.heap.size := h.below.size
        have hf : holds w ⟨w.heap.size, S⟩ (Cell.sl true sz g row).freeze := holds_freeze hn hz (Cell.sl true sz g row) hxf hh1
        simp only [Cell.freeze] at hf
        obtain ⟨⟨f1, f2, f3, f4⟩, f5, f6⟩ := hf
        cases hg : g.a with
        | none =>
          have hb := f5
          rw [hg] at hb
          obtain ⟨hrow, _⟩ := hb
          have hws : ws = [] := by
            cases ws with
            | nil => rfl
            | cons e l =>
              have := (hh3 e (by simp)).1
              simp only [Cell.row] at this
              have e0 : row = [] := by
                cases row with
                | nil => rfl
                | cons c l => simp [freezeL] at hrow
              rw [e0] at this
              simp at this
          subst hws
          simp only [cutRow, Option.some.injEq] at hx
          subst hx
          refine ⟨.sl false sz g (freezeL row), ?_, ⟨⟨f1, f2, f3, f4⟩, f5, f6⟩, ?_, rfl, ?_, rfl⟩
          · simp only [Cell.erase, freezeL_erase]
          · simp [foot, blockOf, freezeL_foot]
          · rw [hu1]; simp [Cell.val]
        | some ad =>
          have hb := f5
          rw [hg] at hb
          obtain ⟨g1, g2, g3⟩ := hb
          cases hc : cutRow Γ r (freezeL (eraseL row)) ws with
          | none => rw [hc] at hx; cases hx
          | some row' =>
            rw [hc] at hx
            simp only [Option.some.injEq] at hx
            subst hx
            rw [← freezeL_erase] at hc
            obtain ⟨R, c1, ⟨c2, c3, c4⟩, c5⟩ := cutRow_ok (a := ad) h hz hS ws (freezeL row) row' (fun e he => ⟨hu2 e he, (hh3 e he).2 ad hg⟩) hc ⟨f6, freezeL_foot row, g2⟩
            have hne : R ≠ [] → freezeL row ≠ [] := by
              intro k e
              rw [e] at c5
              exact k (List.length_eq_zero_iff.1 (by simpa using c5))
            refine ⟨.sl false sz g R, ?_, ⟨⟨f1, by rw [c5]; exact f2, by rw [c5]; exact f3, fun _ => c3⟩, ?_, c2⟩, ?_, rfl, ?_, rfl⟩
            · simp only [Cell.erase, c1]
            · rw [hg]
              refine ⟨fun k => g1 (k.imp id hne), c4, ?_⟩
              simp only [Bool.false_eq_true, if_false] at g3 ⊢
              exact fun k => g3 (hne k)
            · simp [foot, blockOf, c3]
            · rw [hu1]; simp [Cell.val, c5]
    | _ => simp [argSC] at hx
  | c y => exact argSC0_ok h hz hS (x := .c y) hx hu hh hxf
  | view r p => exact argSC0_ok h hz hS (x := .view r p) hx hu hh hxf
  | win r p lo n f => exact argSC0_ok h hz hS (x := .win r p lo n f) hx hu hh hxf
  | ref r p o m => exact argSC0_ok h hz hS (x := .ref r p o m) hx hu hh hxf
  | fref g row o => exact argSC0_ok h hz hS (x := .fref g row o) hx hu hh hxf
  | dead => exact argSC0_ok h hz hS (x := .dead) hx hu hh hxf
theorem argSCs_ok {w0 : W0} {w : World} {Γ : St Gh} {xs : List GC} {tm : Array Value} (h : Inv w0 Γ xs tm w) {S : List Nat} (hz : ∀ b ∈ S, w0.zn.has b) (hS : ∀ s, ∀ b ∈ footV (Γ.get s), b ∉ S) : ∀ {l : List (SC Gh)} {as : List (SC Unit)} {us : List Value}, argSCs Γ l = some as → rels Γ l us → (∀ x ∈ l, scHolds w w0.zn x) → (∀ b ∈ footL (l.map SC.cell), b ∉ S) →
    ∃ cs : List GC, as = cs.map (fun c => .c c.erase) ∧ holdsL w ⟨w.heap.size, S⟩ cs ∧ footL cs = [] ∧ (∀ c ∈ cs, c.isDead = false) ∧ cs.map Cell.val = us ∧ ∀ c ∈ cs, c.isOwn = false
  | [], as, us, ha, hr, _, _ => by
    simp only [argSCs, Option.some.injEq] at ha
    subst ha
    cases us with
    | nil => exact ⟨[], rfl, trivial, rfl, by simp, rfl, by simp⟩
    | cons u us => simp [rels] at hr
  | x :: l, as, us, ha, hr, hh, hf => by
    simp only [argSCs] at ha
    split at ha
    · next y ys h1 h2 =>
      simp only [Option.some.injEq] at ha
      subst ha
      cases us with
      | nil => simp [rels] at hr
      | cons u us =>
        obtain ⟨c, a1, a2, a3, a4, a5, a6⟩ := argSC_ok h hz hS h1 hr.1 (hh x (by simp)) (fun b hb => hf b (by simp [footL, hb]))
        obtain ⟨cs, b1, b2, b3, b4, b5, b6⟩ := argSCs_ok h hz hS h2 hr.2 (fun z hz => hh z (by simp [hz])) (fun b hb => hf b (by rw [List.map_cons, footL]; exact List.mem_append.2 (.inr hb)))
        refine ⟨c :: cs, by rw [a1, b1]; rfl, ⟨a2, b2⟩, by simp [footL, a3, b3], ?_, by simp [a5, b5], ?_⟩
        · intro z hz
          rcases List.mem_cons.1 hz with rfl | hz
          · exact a4
          · exact b4 z hz
        · intro z hz
          rcases List.mem_cons.1 hz with rfl | hz
          · exact a6
          · exact b6 z hz
    · cases ha
theorem argsOf_ok {w0 : W0} {w : World} {Γ : St Gh} {xs : List GC} {tm : Array Value} (h : Inv w0 Γ xs tm w) {S : List Nat} (hz : ∀ b ∈ S, w0.zn.has b) (hS : ∀ s, ∀ b ∈ footV (Γ.get s), b ∉ S) {P : Program} {Ω : Orc Gh} (hn : Ω.nil = gnil) : ∀ {l : List Operand} {ts : List TypeId} {as : List (SV Unit)}, argsOf P Ω Γ ts l = some as →
    ∃ gs : List (Kd × List GC), gs.map (fun g => bare g.1 g.2) = as ∧ (∀ g ∈ gs, holdsL w ⟨w.heap.size, S⟩ g.2 ∧ footL g.2 = [] ∧ ∀ c ∈ g.2, c.isDead = false) ∧ gs.map (fun g => pack g.1 (g.2.map Cell.val)) = l.map (ev tm) ∧ ∀ g ∈ gs, ∀ c ∈ g.2, c.isOwn = false
  | [], ts, as, ha => by
    simp only [argsOf, Option.some.injEq] at ha
    subst ha
    exact ⟨[], rfl, by simp, rfl, by simp⟩
  | x :: l, ts, as, ha => by
    simp only [argsOf] at ha
    split at ha
    · next y ys h1 h2 =>
      simp only [Option.some.injEq] at ha
      subst ha
      obtain ⟨gs, b1, b2, b3, b4⟩ := argsOf_ok h hz hS hn h2
      unfold argOf at h1
      split at h1
      · next v hv =>
        split at h1
        · next as' has =>
          split at h1
          · simp only [Option.some.injEq] at h1
            subst h1
            obtain ⟨⟨us, u1, u2⟩, u3⟩ := opd_ok h hn hv
            have hvf : ∀ b ∈ footL (v.cs.map SC.cell), b ∉ S := by
              cases x with
              | tmp s =>
                simp only [opd, Option.some.injEq] at hv
                subst hv
                exact hS s
              | const cv =>
                simp only [opd] at hv
                rw [hn] at hv
                obtain ⟨cs, e1, _, e3, _⟩ := constSV_ok (w := w) (n0 := w0.zn) hv
                intro b hb
                rw [e1, List.map_map, show (SC.cell ∘ SC.c : GC → GC) = id from rfl, List.map_id, e3] at hb
                cases hb
              | _ => simp [opd] at hv
            obtain ⟨cs, c1, c2, c3, c4, c5, c6⟩ := argSCs_ok h hz hS has u1 u3 hvf
            refine ⟨(v.k, cs) :: gs, ?_, ?_, ?_, ?_⟩
            · rw [List.map_cons, b1, c1]; rfl
            · intro g hg
              rcases List.mem_cons.1 hg with rfl | hg
              · exact ⟨c2, c3, c4⟩
              · exact b2 g hg
            · simp only [List.map_cons, b3, c5, ← u2]
            · intro g hg
              rcases List.mem_cons.1 hg with rfl | hg
              · exact c6
              · exact b4 g hg
          · cases h1
        · cases h1
      · cases h1
    · cases ha
theorem lentOf_frozen {gs : List (Kd × List GC)} (h : ∀ g ∈ gs, ∀ c ∈ g.2, c.isOwn = false) : lentOf (gs.map fun g => bare g.1 g.2) = none := by
  cases gs with
  | nil => rfl
  | cons g gs =>
    obtain ⟨k, cs⟩ := g
    have h1 := h (k, cs) (by simp)
    simp only [List.map_cons, lentOf, bare]
    cases k with
    | one =>
      cases cs with
      | nil => rfl
      | cons c cs => cases cs with
        | nil =>
          have := h1 c (by simp)
          simp [isOwn_erase, this]
        | cons _ _ => rfl
    | _ => rfl

mutual
theorem allOwn_erase : ∀ c : GC, c.erase.allOwn = c.allOwn
  | .sc v => by simp [Cell.erase, Cell.allOwn]
  | .sl o sz g row => by simp [Cell.erase, Cell.allOwn, allOwnL_erase row]
  | .bx o g row => by simp [Cell.erase, Cell.allOwn, allOwnL_erase row]
  | .dead => by simp [Cell.erase, Cell.allOwn]
theorem allOwnL_erase : ∀ l : List GC, allOwnL (eraseL l) = allOwnL l
  | [] => rfl
  | c :: l => by simp [eraseL, allOwnL, allOwn_erase c, allOwnL_erase l]
end
theorem allOwnL_iff {l : List GC} : allOwnL l = true ↔ ∀ c ∈ l, c.allOwn = true := by
  induction l with
  | nil => simp [allOwnL]
  | cons c l ih => simp [allOwnL, ih]

/-- A call comes back. -/
theorem Inv.called {w0 : W0} {w w' : World} {Γ : St Gh} {tm : Array Value} (h : Inv w0 Γ [] tm w) (hb : Below w.heap.size w w') {cs : List GC} (hc : holdsL w' ⟨w.heap.size, []⟩ cs) (hn : (footL cs).Nodup) (ho : allOwnL cs = true) : Inv w0 Γ cs tm w' := by
  have hup : ∀ b, (⟨w.heap.size, []⟩ : Zn).has b → w0.zn.has b := by
    intro b hb
    rcases hb with hb | hb
    · exact .inl (Nat.le_trans h.below.size hb)
    · cases hb
  have hge : ∀ b, (⟨w.heap.size, []⟩ : Zn).has b → w.heap.size ≤ b := by
    intro b hb
    rcases hb with hb | hb
    · exact hb
    · cases hb
  have h1 : Inv w0 Γ [] tm w' := by
    refine h.world ((Below.bel hb []).mono hup) (fun s b hbm => hb.block b ?_) (by simp [footL])
    obtain ⟨c, hc', hbc⟩ := mem_footL.1 hbm
    obtain ⟨x, hx, rfl⟩ := List.mem_map.1 hc'
    exact (sc_foot (h.hold s _ hx) b hbc).1
  refine ⟨h1.below, h1.rel, h1.hold, holdsL_to cs ho (fun b hb => hup b (footL_lt cs hc b hb).2) hc, h1.nod, h1.dis, hn, ?_⟩
  intro s b hb1 hb2
  have h3 := hge b (footL_lt cs hc b hb2).2
  obtain ⟨c, hc', hbc⟩ := mem_footL.1 hb1
  obtain ⟨x, hx, rfl⟩ := List.mem_map.1 hc'
  have := (sc_foot (h.hold s _ hx) b hbc).1
  omega

open Classical in
/-- The oracle of a call: the very result. -/
noncomputable def callΩ (g : SV Gh) : Orc Gh := ⟨gnil, gnil, fun r => if r = g.erase then g else (goodΩ gnil).dec r⟩
theorem callΩ_ok (g : SV Gh) (r : SV Unit) : ((callΩ g).dec r).erase = r := by
  unfold callΩ
  simp only
  split
  · next h => exact h.symm
  · exact goodΩ_ok gnil r
theorem bare_erase (k : Kd) (cs : List GC) : (SV.mk k (cs.map SC.c) : SV Gh).erase = bare k cs := by
  simp [SV.erase, bare, SC.erase]

theorem run_enter {P : Program} {w : World} {tm : Array Value} {ds : List Deferred} {o : Oper} {f : Nat} {c : Call} {fn : Func} (ho : o.op = .call c) (hc : c.callee = .value (.func f)) (hf : P.funcs[f]? = some fn) (hbody : fn.body.isSome = true) (hname : (fn.name == "runtime.NumGoroutine") = false) :
    (execOp (⟨tm, ds⟩ : Act).eval o).run P w = .ok (.enter f (c.args.toList.map (ev tm)).toArray) w := by
  rw [ev_fun]
  have e1 : ev tm (.func f) = .func (.func f) #[] #[] := rfl
  have e2 : (c.args.map (ev tm)) = (c.args.toList.map (ev tm)).toArray := by apply Array.ext'; simp
  unfold execOp
  rw [ho]
  have hnot : ¬ fn.body = none := by intro hb; rw [hb] at hbody; simp at hbody
  have hname2 : ¬ fn.name = "runtime.NumGoroutine" := by simpa using hname
  simp [resolve, hc, Deferred.ofValue, e1, invoke, callFunc, hf, hname2, hnot, e2]
theorem sim_frozen {P : Program} {E : Env} (hE : EnvOk P E) {o : Oper} {t f : Nat} {c : Call} (ht : o.dst = some t) (ho : o.op = .call c) (hc : c.callee = .value (.func f)) {w0 : W0} {w : World} {Γ : St Gh} {tm : Array Value} {e : Eff Unit} (hI : Inv w0 Γ [] tm w)
    (he : effCall P E ΩU Γ.erase t f c.args.toList = some e) (hd : ∀ t, o.dst = some t → t < tm.size) (ds : List Deferred) (next) (Q) (hn : ∀ Γ' tm' w', Inv w0 Γ' [] tm' w' → Γ'.erase = Γ.erase.app e → tm'.size = tm.size → (o.dst ≠ some 0 → tm'.getD 0 undef = tm.getD 0 undef) → next ⟨tm', ds⟩ w') : o.wp P ⟨tm, ds⟩ w next Q := by
  have he2 := he
  unfold effCall at he2
  cases hf : P.funcs[f]? with
  | none => rw [hf] at he2; cases he2
  | some fn =>
  rw [hf] at he2
  simp only at he2
  rw [argsOf_erase P (goodΩ gnil) Γ] at he2
  split at he2
  · next as has =>
    split at he2
    · next r hr =>
      split at he2
      · next hown =>
        obtain ⟨gs, g1, g2, g3, g4⟩ := argsOf_ok hI (S := []) (by simp) (by simp) (show (goodΩ gnil).nil = gnil from rfl) has
        have hG := hE f as r hr
        unfold GoodE at hG
        rw [← g1, lentOf_frozen g4, g1] at hG
        obtain ⟨⟨fn', hf', hbody, hname⟩, hcall0⟩ := hG
        rw [hf] at hf'
        cases hf'
        have hcall := hcall0 w gs g1 g2
        rw [g3] at hcall
        unfold Oper.wp
        rw [run_enter ho hc hf hbody hname, Oper.upon_enter]
        refine hcall.mono ?_
        rintro en w' ⟨k, cs, h1, rfl, h3, h4, h5, h6⟩
        simp only
        have ho' : allOwnL cs = true := by
          rw [allOwnL_iff]
          intro q hq
          rw [← h1] at hown
          have := List.all_eq_true.1 hown (.c q.erase) (List.mem_map.2 ⟨q, hq, rfl⟩)
          rw [← allOwn_erase]; exact this
        have hI2 := hI.called h3 h4 h5 ho'
        have hnat := effCall_erase P E (callΩ ⟨k, cs.map .c⟩) (callΩ_ok _) Γ t f c.args.toList
        rw [he] at hnat
        unfold effCall at hnat
        rw [hf] at hnat
        simp only at hnat
        have has' : argsOf P (callΩ ⟨k, cs.map .c⟩) Γ fn.params.toList c.args.toList = some as := by
          rw [← argsOf_erase P (callΩ ⟨k, cs.map .c⟩) Γ, argsOf_erase P (goodΩ gnil) Γ]; exact has
        rw [has'] at hnat
        simp only [hr, hown, if_true, Option.map_some, Option.some.injEq] at hnat
        have hdec : (callΩ ⟨k, cs.map .c⟩).dec r = ⟨k, cs.map .c⟩ := by
          unfold callΩ
          simp only
          rw [if_pos (by rw [bare_erase]; exact h1.symm)]
        rw [hdec] at hnat
        rw [ht]
        refine hn (Γ.app (effPut t ⟨k, cs.map .c⟩)) _ w' ?_ (by rw [app_erase, hnat]) (by simp) (fun h0 => set_zero (fun e => h0 (by rw [ht, e])))
        rw [app_put]
        refine done_put (kill_nil hI2) (hd t ht) ⟨cs.map Cell.val, rels_cells cs, rfl⟩ ?_ ?_
        · intro z hz
          obtain ⟨q, hq, rfl⟩ := List.mem_map.1 hz
          exact holdsL_iff.1 hI2.pool q hq
        · unfold footV
          rw [List.map_map]
          have : (SC.cell ∘ SC.c : GC → GC) = id := rfl
          rw [this, List.map_id]
      · cases he2
    · cases he2
  · cases he2
/-- A call that is lent its first argument. -/
theorem sim_lend {P : Program} {E : Env} (hE : EnvOk P E) {o : Oper} {t f : Nat} {c : Call} (ht : o.dst = some t) (ho : o.op = .call c) (hc : c.callee = .value (.func f)) {w0 : W0} {w : World} {Γ : St Gh} {tm : Array Value} {e : Eff Unit} (hI : Inv w0 Γ [] tm w)
    (he : effLend P E ΩU Γ.erase t f c.args.toList = some e) (hd : ∀ t, o.dst = some t → t < tm.size) (ds : List Deferred) (next) (Q) (hn : ∀ Γ' tm' w', Inv w0 Γ' [] tm' w' → Γ'.erase = Γ.erase.app e → tm'.size = tm.size → (o.dst ≠ some 0 → tm'.getD 0 undef = tm.getD 0 undef) → next ⟨tm', ds⟩ w') : o.wp P ⟨tm, ds⟩ w next Q := by
  -- what the ghosts' effect is, whatever the oracle
  have hnat : ∀ Ω : Orc Gh, (∀ r, (Ω.dec r).erase = r) → ∃ e', effLend P E Ω Γ t f c.args.toList = some e' ∧ e'.erase = e := by
    intro Ω hΩ
    have h := effLend_erase P E Ω hΩ Γ t f c.args.toList
    rw [he] at h
    cases hx : effLend P E Ω Γ t f c.args.toList with
    | none => rw [hx] at h; cases h
    | some e' => rw [hx] at h; simp only [Option.map_some, Option.some.injEq] at h; exact ⟨e', rfl, h.symm⟩
  obtain ⟨e1, he1, _⟩ := hnat (goodΩ gnil) (goodΩ_ok gnil)
  unfold effLend at he1
  cases hf : P.funcs[f]? with
  | none => rw [hf] at he1; cases he1
  | some fn =>
  rw [hf] at he1
  cases hargs : c.args.toList with
  | nil => rw [hargs] at he1; cases he1
  | cons x rest =>
  rw [hargs] at he1
  cases x with
  | tmp s =>
    simp only at he1
    split at he1
    · next hk =>
      split at he1
      · next x hcs =>
        split at he1
        · next r p hpl =>
          split at he1
          · next y d htk =>
            split at he1
            · next l hl =>
              split at he1
              · next R hR =>
                split at he1
                · next hok =>
                  obtain ⟨hRo, hyo, hrt⟩ := hok
                  obtain ⟨i1, _, i3, i4, i5⟩ := take_ok (pend0_inv hI) htk
                  rw [pend0_get] at i3
                  have hyh := hI.cell i3
                  have hyf := foot_lt y hyh
                  have hyn : (foot y).Nodup := by have := i1.nodP; simpa [footL] using this
                  -- the first argument's value
                  have hval : ev tm (.tmp s) = y.val := by
                    obtain ⟨us, u1, u2⟩ := hI.rel s
                    rw [hcs] at u1
                    obtain ⟨u, hu⟩ : ∃ u, us = [u] := by
                      cases us with
                      | nil => simp [rels] at u1
                      | cons u us => cases us with
                        | nil => exact ⟨u, rfl⟩
                        | cons _ _ => simp [rels] at u1
                    subst hu
                    have hu1 := u1.1
                    have hev : ev tm (.tmp s) = u := by
                      show tm.getD s undef = u
                      rw [u2, hk]; rfl
                    rw [hev]
                    cases x with
                    | c z =>
                      simp only [SC.place] at hpl
                      split at hpl
                      · next hzo =>
                        simp only [Option.some.injEq, Prod.mk.injEq] at hpl
                        obtain ⟨rfl, rfl⟩ := hpl
                        have : (Γ.get s).getP [0] = some z := by simp [SV.getP, hcs, Cell.getC]
                        rw [i3] at this
                        obtain rfl := Option.some.inj this
                        rcases hu1 with hu1 | hu1
                        · rw [isDead_own i4] at hu1; cases hu1
                        · exact hu1
                      · cases hpl
                    | view r' p' =>
                      simp only [SC.place, Option.some.injEq, Prod.mk.injEq] at hpl
                      obtain ⟨rfl, rfl⟩ := hpl
                      obtain ⟨y', v1, _, v3⟩ := hu1
                      rw [i3] at v1
                      obtain rfl := Option.some.inj v1
                      exact v3
                    | _ => simp [SC.place] at hpl
                  -- the others
                  have hS : ∀ s, ∀ b ∈ footV ((Γ.pend d).get s), b ∉ foot y := fun s b hb hm => i1.disP s b hb (by simp [footL, hm])
                  obtain ⟨gs, g1, g2, g3, _⟩ := argsOf_ok i1 (S := foot y) (fun b hb => (hyf b hb).2) hS (show (goodΩ gnil).nil = gnil from rfl) hl
                  have hG := hE f _ R hR
                  unfold GoodE lentOf at hG
                  simp only [one, isOwn_erase, i4, if_true] at hG
                  obtain ⟨⟨fn', hf', hbody, hname⟩, hcall0⟩ := hG
                  rw [hf] at hf'
                  cases hf'
                  have hyz : holds w ⟨w.heap.size, foot y⟩ y := holds_to y hyo (fun b hb => .inr hb) hyh
                  have hcall := hcall0 w y gs rfl i4 hyo g1 hyz hyn g2
                  rw [g3, ← hval] at hcall
                  unfold Oper.wp
                  rw [run_enter ho hc hf hbody hname, Oper.upon_enter, hargs, List.map_cons]
                  refine hcall.mono ?_
                  rintro en w' ⟨k, l', cs, h1, h2, rfl, h3, h4, h5, h6⟩
                  simp only
                  have hown : allOwnL (y.withRow l' :: cs) = true := by
                    rw [allOwnL_iff]
                    intro q hq
                    rw [← h1] at hRo
                    have := List.all_eq_true.1 hRo (.c q.erase) (List.mem_map.2 ⟨q, hq, rfl⟩)
                    rw [← allOwn_erase]; exact this
                  obtain ⟨e2, he2, he3⟩ := hnat (callΩ ⟨k, (y.withRow l' :: cs).map .c⟩) (callΩ_ok _)
                  have hdec : (callΩ ⟨k, (y.withRow l' :: cs).map .c⟩).dec R = ⟨k, (y.withRow l' :: cs).map .c⟩ := by
                    unfold callΩ
                    simp only
                    rw [if_pos (by rw [bare_erase]; exact h1.symm)]
                  have hl2 : argsOf P (callΩ ⟨k, (y.withRow l' :: cs).map .c⟩) ((putAll Γ d.ch.reverse).kill d.kill) fn.params.toList.tail rest = some l := by
                    rw [← argsOf_erase P (callΩ ⟨k, (y.withRow l' :: cs).map .c⟩), argsOf_erase P (goodΩ gnil)]; exact hl
                  unfold effLend at he2
                  rw [hf, hargs] at he2
                  simp only [hk, if_true, hcs, hpl, htk, hl2, hR] at he2
                  rw [if_pos ⟨hRo, hyo, hrt⟩, hdec] at he2
                  unfold lendEff at he2
                  simp only [List.map_cons, withRow_own, i4, withRow_row i4, h2, and_self, if_true, Option.some.injEq] at he2
                  subst he2
                  rw [ht]
                  let kids : List (Nat × List Nat) := (List.range y.row.length).map (fun i => (r, p ++ [i]))
                  have hIk := hI.kill kids
                  have hclr : ∀ i, i < y.row.length → Clear (Γ.kill kids) r (p ++ [i]) := fun i hi => kill_clear Γ kids r (p ++ [i]) (List.mem_map.2 ⟨i, List.mem_range.2 hi, rfl⟩)
                  have hdk : ((Γ.kill kids).get r).getP p = some y := by rw [get_kill, getP_kill]; exact i3
                  have hL := hIk.lent hdk i4 h2 hclr h3 hown h4 h5
                  have hL2 : Inv w0 ((Γ.put r ((Γ.get r).setP p (y.withRow l'))).kill kids) cs tm w' := by
                    refine hL.congr fun s => ?_
                    rw [get_kill, get_put, get_put, get_kill, get_kill]
                    split
                    · rw [setP_kill]
                    · rfl
                  refine hn _ _ w' ?_ (by rw [app_erase, he3]) ?_ (fun h0 => set_zero (fun e => h0 (by rw [ht, e])))
                  · exact done_put (t := t) (v := ⟨k, cs.map .c⟩) (u := pack k (cs.map Cell.val)) hL2 (hd t ht) ⟨cs.map Cell.val, rels_cells cs, rfl⟩ (by
                      intro z hz
                      obtain ⟨q, hq, rfl⟩ := List.mem_map.1 hz
                      exact holdsL_iff.1 hL2.pool q hq) (by
                      unfold footV
                      rw [List.map_map]
                      have : (SC.cell ∘ SC.c : GC → GC) = id := rfl
                      rw [this, List.map_id])
                  · simp
                · cases he1
              · cases he1
            · cases he1
          · cases he1
        · cases he1
      · cases he1
    · cases he1
  | _ => cases he1
/-- A call that reads its arguments alone: whatever they are. -/
theorem sim_core {P : Program} {E : Env} (hE : EnvOk P E) {o : Oper} {t f : Nat} {c : Call} {fn : Func} (ht : o.dst = some t) (ho : o.op = .call c) (hc : c.callee = .value (.func f)) {w0 : W0} {w : World} {Γ : St Gh} {tm : Array Value} (hI : Inv w0 Γ [] tm w) (hf : P.funcs[f]? = some fn)
    {gs : List (Kd × List GC)} (g2 : ∀ g ∈ gs, holdsL w ⟨w.heap.size, []⟩ g.2 ∧ footL g.2 = [] ∧ ∀ c ∈ g.2, c.isDead = false) (g3 : gs.map (fun g => pack g.1 (g.2.map Cell.val)) = c.args.toList.map (ev tm)) (g4 : ∀ g ∈ gs, ∀ c ∈ g.2, c.isOwn = false) {r : SV Unit} (hr : E f (gs.map fun g => bare g.1 g.2) = some r) (hown : r.ownAll = true)
    (hd : ∀ t, o.dst = some t → t < tm.size) (ds : List Deferred) (next) (Q) (hn : ∀ Γ' tm' w', Inv w0 Γ' [] tm' w' → Γ'.erase = Γ.erase.app (effPut t r) → tm'.size = tm.size → (o.dst ≠ some 0 → tm'.getD 0 undef = tm.getD 0 undef) → next ⟨tm', ds⟩ w') : o.wp P ⟨tm, ds⟩ w next Q := by
  have hG := hE f _ r hr
  unfold GoodE at hG
  rw [lentOf_frozen g4] at hG
  obtain ⟨⟨fn', hf', hbody, hname⟩, hcall0⟩ := hG
  rw [hf] at hf'
  cases hf'
  have hcall := hcall0 w gs rfl g2
  rw [g3] at hcall
  unfold Oper.wp
  rw [run_enter ho hc hf hbody hname, Oper.upon_enter]
  refine hcall.mono ?_
  rintro en w' ⟨k, cs, h1, rfl, h3, h4, h5, h6⟩
  simp only
  have ho' : allOwnL cs = true := by
    rw [allOwnL_iff]
    intro q hq
    rw [← h1] at hown
    have := List.all_eq_true.1 hown (.c q.erase) (List.mem_map.2 ⟨q, hq, rfl⟩)
    rw [← allOwn_erase]; exact this
  have hI2 := hI.called h3 h4 h5 ho'
  rw [ht]
  refine hn (Γ.app (effPut t ⟨k, cs.map .c⟩)) _ w' ?_ (by rw [app_erase, effPut_erase, bare_erase, h1]) (by simp) (fun h0 => set_zero (fun e => h0 (by rw [ht, e])))
  rw [app_put]
  refine done_put (kill_nil hI2) (hd t ht) ⟨cs.map Cell.val, rels_cells cs, rfl⟩ ?_ ?_
  · intro z hz
    obtain ⟨q, hq, rfl⟩ := List.mem_map.1 hz
    exact holdsL_iff.1 hI2.pool q hq
  · unfold footV
    rw [List.map_map]
    have : (SC.cell ∘ SC.c : GC → GC) = id := rfl
    rw [this, List.map_id]
theorem sim_nil {P : Program} {E : Env} (hE : EnvOk P E) {o : Oper} {t f : Nat} {c : Call} (ht : o.dst = some t) (ho : o.op = .call c) (hc : c.callee = .value (.func f)) {w0 : W0} {w : World} {Γ : St Gh} {tm : Array Value} {e : Eff Unit} (hI : Inv w0 Γ [] tm w)
    (he : effCallNil P E ΩU Γ.erase t f c.args.toList = some e) (hd : ∀ t, o.dst = some t → t < tm.size) (ds : List Deferred) (next) (Q) (hn : ∀ Γ' tm' w', Inv w0 Γ' [] tm' w' → Γ'.erase = Γ.erase.app e → tm'.size = tm.size → (o.dst ≠ some 0 → tm'.getD 0 undef = tm.getD 0 undef) → next ⟨tm', ds⟩ w') : o.wp P ⟨tm, ds⟩ w next Q := by
  unfold effCallNil at he
  split at he
  · next fn rest hf hargs =>
    rw [argsOf_erase P (goodΩ gnil) Γ] at he
    split at he
    · next l hl =>
      split at he
      · next r hr =>
        split at he
        · next hown =>
          simp only [Option.some.injEq] at he
          subst he
          obtain ⟨gs, g1, g2, g3, g4⟩ := argsOf_ok hI (S := []) (by simp) (by simp) (show (goodΩ gnil).nil = gnil from rfl) hl
          have hb : (((.one, [.sc (.slice none 0 0)]) : Kd × List GC) :: gs).map (fun g => bare g.1 g.2) = nilMark :: l := by
            rw [List.map_cons, g1]; rfl
          refine sim_core hE ht ho hc hI hf (gs := ((.one, [.sc (.slice none 0 0)]) : Kd × List GC) :: gs) ?_ ?_ ?_ (r := r) (by rw [hb]; exact hr) hown hd ds next Q hn
          · intro g hg
            rcases List.mem_cons.1 hg with rfl | hg
            · exact ⟨⟨rfl, trivial⟩, rfl, by simp [Cell.isDead]⟩
            · exact g2 g hg
          · rw [List.map_cons, g3, hargs]; rfl
          · intro g hg
            rcases List.mem_cons.1 hg with rfl | hg
            · simp [Cell.isOwn]
            · exact g4 g hg
        · cases he
      · cases he
    · cases he
  · cases he
theorem sim_call {P : Program} {E : Env} (hE : EnvOk P E) {o : Oper} {t f : Nat} {c : Call} (ht : o.dst = some t) (ho : o.op = .call c) (hc : c.callee = .value (.func f)) : Sim P E o := by
  intro w0 w Γ tm e hI he hd ds next Q hn
  unfold ieff at he
  rw [ho, ht] at he
  simp only [hc] at he
  cases h1 : effCall P E ΩU Γ.erase t f c.args.toList with
  | some e1 =>
    rw [h1] at he
    simp only [orElse, Option.some.injEq] at he
    subst he
    exact sim_frozen hE ht ho hc hI h1 hd ds next Q hn
  | none =>
    rw [h1] at he
    simp only [orElse] at he
    cases h2 : effLend P E ΩU Γ.erase t f c.args.toList with
    | some e2 =>
      rw [h2] at he
      simp only [Option.some.injEq] at he
      subst he
      exact sim_lend hE ht ho hc hI h2 hd ds next Q hn
    | none =>
      rw [h2] at he
      exact sim_nil hE ht ho hc hI he hd ds next Q hn
end Go.Proofs.Ytnmocjhpbobahaa.L
namespace Go.Proofs.Ytnmocjhpbobahaa.L
open Go Go.RowKit

theorem partsOf_nil {α : Type} {P : Program} {Ω Ω' : Orc α} (h : Ω.nil = Ω'.nil) {σ : St α} {ty : Nat → TypeId} : ∀ l : List (Nat × Operand), partsOf P Ω σ ty l = partsOf P Ω' σ ty l
  | [] => rfl
  | (i, x) :: l => by
    have e : opd P Ω σ (ty i) x = opd P Ω' σ (ty i) x := by cases x <;> simp [opd, h]
    simp only [partsOf, e, partsOf_nil h l]
theorem partRel_of {Γ Γ' : St Gh} {r : Nat} {q : Part} {u : Value} (h : ∀ p, (Γ'.get r).getP p = (Γ.get r).getP p) (hr : partRel Γ r q u) : partRel Γ' r q u := by
  cases q <;> simp only [partRel, h] at hr ⊢ <;> exact hr
theorem ovGet_free {α : Type} {σ : St α} {ch : List (Nat × SV α)} {r : Nat} (h : ch.all (fun x => x.1 != r) = true) : ovGet σ ch r = σ.get r := by
  unfold ovGet
  have : ch.lookup r = none := by
    induction ch with
    | nil => rfl
    | cons x l ih =>
      simp only [List.all_cons, Bool.and_eq_true, bne_iff_ne, ne_eq] at h
      have e : (r == x.1) = false := by simpa using fun e => h.1 e.symm
      obtain ⟨a, b⟩ := x
      simp only [List.lookup, e]
      exact ih h.2
  rw [this]

theorem fillParts_mem {β : Type} {place : Nat → Option (Nat × Nat)} : ∀ (ps : List (Nat × List β)) (l r : List β), fillParts place l ps = some r → ∀ y ∈ r, y ∈ l ∨ ∃ p ∈ ps, y ∈ p.2
  | [], l, r, h, y, hy => by
    simp only [fillParts, Option.some.injEq] at h
    subst h; exact .inl hy
  | (i, xs) :: ps, l, r, h, y, hy => by
    simp only [fillParts] at h
    split at h
    · split at h
      · rcases fillParts_mem ps _ r h y hy with k | ⟨p, hp, k⟩
        · rcases setRun_mem xs l _ y k with k | k
          · exact .inl k
          · exact .inr ⟨(i, xs), by simp, k⟩
        · exact .inr ⟨p, by simp [hp], k⟩
      · cases h
    · cases h
theorem fillParts_at {β : Type} {place : Nat → Option (Nat × Nat)} (hpl : ∀ i, place i = some (i, 1)) : ∀ (ps : List (Nat × List β)) (l r : List β), fillParts place l ps = some r → distinct (ps.map (·.1)) = true →
    (∀ i q, (i, [q]) ∈ ps → r[i]? = some q) ∧ ∀ j, j ∉ ps.map (·.1) → r[j]? = l[j]?
  | [], l, r, h, _ => by
    simp only [fillParts, Option.some.injEq] at h
    subst h
    exact ⟨by simp, fun _ _ => rfl⟩
  | (i, xs) :: ps, l, r, h, hd => by
    simp only [fillParts, hpl] at h
    simp only [List.map_cons, distinct, Bool.and_eq_true, Bool.not_eq_true'] at hd
    split at h
    · next hc =>
      obtain ⟨x, rfl⟩ := List.length_eq_one_iff.1 hc.1
      obtain ⟨h1, h2⟩ := fillParts_at hpl ps _ r h hd.2
      have hi : i ∉ ps.map (·.1) := by simpa using hd.1
      refine ⟨?_, ?_⟩
      · intro j q hq
        rcases List.mem_cons.1 hq with hq | hq
        · simp only [Prod.mk.injEq, List.cons.injEq, and_true] at hq
          obtain ⟨rfl, rfl⟩ := hq
          rw [h2 j hi]
          simp only [setRun]
          rw [List.getElem?_set_self (by have := hc.2; omega)]
        · exact h1 j q hq
      · intro j hj
        simp only [List.map_cons, List.mem_cons, not_or] at hj
        rw [h2 j hj.2]
        simp only [setRun]
        rw [List.getElem?_set_ne (fun e => hj.1 e.symm)]
    · cases h

theorem hdLen_rel {Γ : St Gh} {r n : Nat} {q : Part} {u : Value} (h : partRel Γ r q u) (hn : hdLen Γ r q = some n) : ∃ a c, u = .slice a n c := by
  cases q with
  | win p lo m f =>
    obtain ⟨y, h1, sz, g, len, h2, _, _, _, a', cap', h3, _⟩ := h
    simp only [hdLen, h1] at hn
    cases y with
    | sl o sz' g' row =>
      simp only [Cell.head, Prod.mk.injEq, true_and] at h2
      obtain ⟨rfl, rfl, _, _⟩ := h2
      simp only [Option.some.injEq] at hn
      exact ⟨_, _, by rw [h3, hn]⟩
    | _ => simp [Cell.head] at h2
  | arr p off m sz =>
    obtain ⟨y, _, _, a, _, h3⟩ := h
    simp only [hdLen, Option.some.injEq] at hn
    subst hn
    exact ⟨_, _, h3⟩
theorem cutOf_some {x : Nat × Option Nat × List (SC Gh)} {r : Nat} {q : Part} (h : cutOf x = some (r, q)) : x.2.2 = [q.sc r] := by
  obtain ⟨i, s, cs⟩ := x
  match cs, h with
  | [y], h =>
    cases y with
    | win r p lo n f => simp only [cutOf, Option.some.injEq, Prod.mk.injEq] at h; obtain ⟨rfl, rfl⟩ := h; rfl
    | ref r p o m =>
      cases m with
      | none => simp [cutOf] at h
      | some z => simp only [cutOf, Option.some.injEq, Prod.mk.injEq] at h; obtain ⟨rfl, rfl⟩ := h; rfl
    | _ => simp [cutOf] at h
  | [], h => simp [cutOf] at h
  | y :: z :: l, h => cases y <;> simp [cutOf] at h

/-- The parts: those that are taken, and those that are borrowed. -/
theorem takeCut_ok {w0 : W0} {w : World} {Γ : St Gh} {tm : Array Value} (h0 : Inv w0 Γ [] tm w) {P : Program} {Ω : Orc Gh} (hn : Ω.nil = gnil) {ty : Nat → TypeId} {r : Nat} : ∀ (parts : List (Nat × Operand)) (ps : List (Nat × Option Nat × List (SC Gh))) (pool : List GC) (d d' : Pend Gh) (l : List (Nat × List GC)) (ws : List (Nat × Part × Nat)),
    partsOf P Ω Γ ty parts = some ps → cutWs Γ r ps = some ws → Inv w0 (Γ.pend d) pool tm w → Back Γ (Γ.pend d) → takeParts Γ d (ps.map stripCut) = some (l, d') →
    Inv w0 (Γ.pend d') ((l.flatMap (·.2)) ++ pool) tm w ∧
    ∃ (pv : List (Nat × List (GC × Value))) (hds : List GC), pv.map (fun x => (x.1, x.2.map Prod.fst)) = l ∧ pv.map (·.1) = parts.map (·.1) ∧
      (∀ (k : Nat) (p : Nat × List (GC × Value)) (x : Nat × Operand), pv[k]? = some p → parts[k]? = some x → p.1 = x.1 ∧ (ev tm x.2).cells.toList = p.2.map Prod.snd) ∧
      (∀ p ∈ pv, ∀ q ∈ p.2, q.1.isDead = true ∨ q.2 = q.1.val) ∧
      hds.map (fun c => SC.c c.erase) = ws.map (fun e => hdU e.2.2) ∧
      (∀ (k : Nat) (e : Nat × Part × Nat) (c : GC), ws[k]? = some e → hds[k]? = some c → partRel Γ r e.2.1 c.val ∧ (e.1, [(Cell.dead, c.val)]) ∈ pv)
  | [], ps, pool, d, d', l, ws, hp, hw, h, _, ht => by
    simp only [partsOf, Option.some.injEq] at hp
    subst hp
    simp only [cutWs, Option.some.injEq] at hw
    subst hw
    simp only [List.map_nil, takeParts, Option.some.injEq, Prod.mk.injEq] at ht
    obtain ⟨rfl, rfl⟩ := ht
    exact ⟨h, [], [], rfl, rfl, by simp, by simp, rfl, by simp⟩
  | (i, x) :: parts, ps, pool, d, d', l, ws, hp, hw, h, hb, ht => by
    simp only [partsOf] at hp
    split at hp
    · next v l0 hv hl =>
      split at hp
      · next hok =>
        simp only [Option.some.injEq] at hp
        subst hp
        obtain ⟨⟨us, u1, u2⟩, u3⟩ := opd_ok h0 hn hv
        simp only [cutWs] at hw
        cases hcut : cutOf (i, slotOf x, v.cs) with
        | none =>
          rw [hcut] at hw
          simp only at hw
          have e1 : stripCut (i, slotOf x, v.cs) = (i, slotOf x, v.cs) := by simp only [stripCut, hcut]
          simp only [List.map_cons, e1, takeParts] at ht
          split at ht
          · next ys d1 h1 =>
            split at ht
            · next l2 d2 h2 =>
              simp only [Option.some.injEq, Prod.mk.injEq] at ht
              obtain ⟨rfl, rfl⟩ := ht
              obtain ⟨a1, a2, a3, a4⟩ := takeFrom_ok hn h0 hv u1 h hb h1
              obtain ⟨b1, pv, hds, b2, b3, b4, b5, b6, b7⟩ := takeCut_ok h0 hn parts l0 (ys ++ pool) d1 d2 l2 ws hl hw a1 a2 h2
              refine ⟨b1.permL ?_, (i, ys.map fun c => (c, c.val)) :: pv, hds, ?_, ?_, ?_, ?_, b6, ?_⟩
              · simp only [List.flatMap_cons]
                rw [← List.append_assoc]
                exact List.Perm.append_right _ List.perm_append_comm
              · simp only [List.map_cons, b2, List.map_map, Function.comp_def, List.map_id']
              · simp only [List.map_cons, b3]
              · intro k p y hp hy
                cases k with
                | zero =>
                  simp at hp hy
                  subst hp; subst hy
                  exact ⟨rfl, by rw [u2, okPart_cells hok u1 u3, a3]; simp [Function.comp_def]⟩
                | succ k => exact b4 k p y (by simpa using hp) (by simpa using hy)
              · intro p hp q hq
                rcases List.mem_cons.1 hp with rfl | hp
                · simp only [List.mem_map] at hq
                  obtain ⟨c, _, rfl⟩ := hq
                  exact .inr rfl
                · exact b5 p hp q hq
              · intro k e c hk hc
                obtain ⟨c1, c2⟩ := b7 k e c hk hc
                exact ⟨c1, by simp [c2]⟩
            · cases ht
          · cases ht
        | some rq =>
          obtain ⟨r', q⟩ := rq
          rw [hcut] at hw
          simp only at hw
          split at hw
          · next hrr =>
            subst hrr
            split at hw
            · next n ws' hlen hws =>
              simp only [Option.some.injEq] at hw
              subst hw
              have hcs := cutOf_some hcut
              simp only at hcs
              have e1 : stripCut (i, slotOf x, v.cs) = (i, none, [.c .dead]) := by simp only [stripCut, hcut]
              simp only [List.map_cons, e1, takeParts, takeFrom, List.map_nil, SC.cell] at ht
              split at ht
              · next l2 d2 h2 =>
                simp only [Option.some.injEq, Prod.mk.injEq] at ht
                obtain ⟨rfl, rfl⟩ := ht
                obtain ⟨b1, pv, hds, b2, b3, b4, b5, b6, b7⟩ := takeCut_ok h0 hn parts l0 pool d d2 l2 ws' hl hws h hb h2
                have u1' := u1
                rw [hcs] at u1'
                cases us with
                | nil => simp [rels] at u1'
                | cons u us =>
                cases us with
                | cons u2 us => simp [rels] at u1'
                | nil =>
                have hpr : partRel Γ r' q u := by
                  have := u1'.1
                  cases q <;> exact this
                obtain ⟨ga, gc, hu⟩ := hdLen_rel hpr hlen
                refine ⟨?_, (i, [(.dead, u)]) :: pv, .sl false 1 ⟨ga, gc⟩ (List.replicate n .dead) :: hds, ?_, ?_, ?_, ?_, ?_, ?_⟩
                · simp only [List.flatMap_cons, List.cons_append, List.nil_append]
                  exact holds_free b1 trivial rfl
                · simp only [List.map_cons, b2, List.map_nil]
                · simp only [List.map_cons, b3]
                · intro k p y hp hy
                  cases k with
                  | zero =>
                    simp at hp hy
                    subst hp; subst hy
                    exact ⟨rfl, by rw [u2, okPart_cells hok u1 u3]; rfl⟩
                  | succ k => exact b4 k p y (by simpa using hp) (by simpa using hy)
                · intro p hp z hz
                  rcases List.mem_cons.1 hp with rfl | hp
                  · simp only [List.mem_singleton] at hz
                    subst hz
                    exact .inl rfl
                  · exact b5 p hp z hz
                · simp only [List.map_cons, b6, hdU, Cell.erase, eraseL_eq, List.map_replicate]
                · intro k e c hk hc
                  cases k with
                  | zero =>
                    simp only [List.getElem?_cons_zero, Option.some.injEq] at hk hc
                    subst hk; subst hc
                    have hval : (Cell.sl false 1 ⟨ga, gc⟩ (List.replicate n .dead) : GC).val = u := by rw [hu]; simp [Cell.val]
                    rw [hval]
                    exact ⟨hpr, by simp⟩
                  | succ k =>
                    obtain ⟨c1, c2⟩ := b7 k e c (by simpa using hk) (by simpa using hc)
                    exact ⟨c1, by simp [c2]⟩
              · cases ht
            · cases hw
          · cases hw
      · cases hp
    · cases hp

theorem putHd_mem : ∀ (ws : List (Nat × Part × Nat)) (hs : List GC) (e : Nat × Part × GC), e ∈ putHd ws (hs.map SC.c) → ∃ (k : Nat) (e0 : Nat × Part × Nat), ws[k]? = some e0 ∧ hs[k]? = some e.2.2 ∧ e.1 = e0.1 ∧ e.2.1 = e0.2.1
  | [], hs, e, h => by cases hs <;> simp [putHd] at h
  | _ :: _, [], e, h => by simp [putHd] at h
  | x :: ws, c :: hs, e, h => by
    simp only [List.map_cons, putHd, List.mem_cons] at h
    rcases h with rfl | h
    · exact ⟨0, x, rfl, rfl, rfl, rfl⟩
    · obtain ⟨k, e0, h1, h2, h3, h4⟩ := putHd_mem ws hs e h
      exact ⟨k + 1, e0, by simpa using h1, by simpa using h2, h3, h4⟩

theorem cut_ok {w0 : W0} {w : World} {Γ : St Gh} {tm : Array Value} (h : Inv w0 Γ [] tm w) {P : Program} {t ty len : Nat} {parts : Array (Nat × Operand)} (ht : t < tm.size)
    (hs : (effCut P ΩU Γ.erase t ty len parts.toList).isSome) :
    ∃ (Ω : Orc Gh) (v : Value) (w' : World), (∀ r, (Ω.dec r).erase = r) ∧ (Instr.buildSlice ty len (parts.map fun (i, x) => (i, ev tm x))).run P w = .ok v w' ∧
      ∀ ef, effCut P Ω Γ t ty len parts.toList = some ef → Inv w0 (Γ.app ef) [] (tm.setIfInBounds t v) w' := by
  rw [effCut_erase P (goodΩ gnil) (goodΩ_ok gnil)] at hs
  cases he : effCut P (goodΩ gnil) Γ t ty len parts.toList with
  | none => rw [he] at hs; simp at hs
  | some ef0 =>
  clear hs
  unfold effCut at he
  cases hu : P.underlying ty with
  | none => rw [hu] at he; simp at he
  | some dd =>
  rw [hu] at he
  cases dd with
  | slice e =>
    simp only at he
    split at he
    · next hc =>
      obtain ⟨hc1, hc2⟩ := hc
      split at he
      · next z ps hz hps =>
        split at he
        · next r hr =>
          split at he
          · next ws l d hws hl =>
            split at he
            · next row hrow =>
              split at he
              · next hcond =>
                clear he
                obtain ⟨hzl, hrt, hch, hkl, hdis⟩ := hcond
                obtain ⟨it, zv, z1, z2, z3, z4, z5, z6⟩ := zeroCells_ok hz w w0.zn
                obtain ⟨a1, pv, hds, b2, b3, b4, b5, b6, b7⟩ := takeCut_ok h rfl parts.toList ps [] pend0 d l ws hps hws (h.congr (pend0_get Γ)) (fun r q z hz ho => ⟨z, by rw [pend0_get] at hz; exact hz, rfl⟩) hl
                obtain ⟨⟨D, f1⟩, f2, f3⟩ := fillParts_foot l _ row hrow
                obtain ⟨r1, r2⟩ := replicate_zero (n := len) z3 z4
                have hsz : it.size = P.cellsOf e := by simp [Program.cellsOf, z1]
                have hzs : zv.cells.size = P.cellsOf e := by rw [← Array.length_toList, ← z6, List.length_map, hzl]
                have hrl : row.length = len * P.cellsOf e := by rw [f3, flat_length, hzl]
                have hrh : holdsL w w0.zn row := by
                  have hp := a1.pool
                  rw [holdsL_iff] at hp r1 ⊢
                  intro y hy
                  rcases f2 y hy with hy | hy
                  · exact r1 y hy
                  · exact hp y (by simp [hy])
                have hI : Inv w0 (Γ.pend d) row tm w := a1.sub ⟨D, by rw [r2, List.nil_append] at f1; simpa using f1⟩ hrh
                -- the row with its values
                have hmf := fillParts_map Prod.fst (fieldPl P ty) pv ((List.replicate len z).flatten.map fun c => (c, c.val))
                have hms := fillParts_map Prod.snd (fieldPl P ty) pv ((List.replicate len z).flatten.map fun c => (c, c.val))
                have e0 : ((List.replicate len z).flatten.map fun c => (c, c.val)).map Prod.fst = (List.replicate len z).flatten := by simp [Function.comp_def]
                have e0s : ((List.replicate len z).flatten.map fun c => (c, c.val)).map Prod.snd = (List.replicate len z).flatten.map Cell.val := by rw [List.map_map]; rfl
                rw [e0, b2, hrow] at hmf
                cases hrp : fillParts (fieldPl P ty) ((List.replicate len z).flatten.map fun c => (c, c.val)) pv with
                | none => rw [hrp] at hmf; cases hmf
                | some rp =>
                rw [hrp] at hmf hms
                simp only [Option.map_some, Option.some.injEq] at hmf hms
                rw [e0s] at hms
                have hpl : ∀ i, fieldPl P ty i = some (i, 1) := by intro i; simp [fieldPl, hu, hc2]
                have hat := (fillParts_at hpl pv _ rp hrp (by rw [b3]; exact hdis)).1
                have hmem : ∀ q ∈ rp, q.1.isDead = true ∨ q.2 = q.1.val := by
                  intro q hq
                  rcases fillParts_mem pv _ rp hrp q hq with hq | ⟨p, hp, hq⟩
                  · obtain ⟨c, _, rfl⟩ := List.mem_map.1 hq
                    exact .inr rfl
                  · exact b5 p hp q hq
                have hfill := fill_ok (fieldPl P ty) _ (parts.map fun (i, x) => (i, ev tm x)).toList _ _ hms (by
                  have := congrArg List.length b3
                  simp only [List.length_map] at this ⊢
                  simp [this]) (by
                  intro k p v hp hv
                  rw [List.getElem?_map] at hp
                  have hv' : (parts.toList.map fun (x : Nat × Operand) => (x.1, ev tm x.2))[k]? = some v := by simpa using hv
                  rw [List.getElem?_map] at hv'
                  cases hx : parts.toList[k]? with
                  | none => rw [hx] at hv'; cases hv'
                  | some x =>
                    rw [hx] at hv'
                    simp only [Option.map_some, Option.some.injEq] at hv'
                    subst hv'
                    cases hy : pv[k]? with
                    | none => rw [hy] at hp; cases hp
                    | some y =>
                      rw [hy] at hp
                      simp only [Option.map_some, Option.some.injEq] at hp
                      subst hp
                      obtain ⟨c1, c2⟩ := b4 k y x hy hx
                      exact ⟨c1.symm, c2⟩)
                have hΩs : (callΩ (⟨.one, hds.map SC.c⟩ : SV Gh)).dec ⟨.one, ws.map fun e => hdU e.2.2⟩ = ⟨.one, hds.map SC.c⟩ := by
                  unfold callΩ
                  simp only
                  rw [if_pos]
                  rw [bare_erase]
                  simp only [bare, SV.mk.injEq, true_and]
                  exact b6.symm
                refine ⟨⟨⟨some ⟨w.heap.size, 0, none⟩, len⟩, gnil, (callΩ (⟨.one, hds.map SC.c⟩ : SV Gh)).dec⟩, .slice (some ⟨w.heap.size, 0, none⟩) len len, w.alloc (.cells (rp.map Prod.snd).toArray e), callΩ_ok _, ?_, ?_⟩
                · have hlist : ((List.replicate len z).flatten.map Cell.val).toArray = (Array.range (len * it.size)).map (fun j => zv.cells[j % zv.cells.size]!) := by
                    apply Array.ext'
                    have := made_list zv.cells len
                    unfold madeCells at this
                    rw [hzs] at this
                    rw [hsz, hzs, this, List.map_flatten, List.map_replicate, z6]
                  rw [hlist] at hfill
                  have hplace : (fun i => some (i * it.size, it.size)) = fieldPl P ty := by funext i; simp [fieldPl, hu, hsz]
                  have h24 : ¬ (len * it.size > 2 ^ 24) := by rw [hsz]; omega
                  by_cases h0 : len * it.size = 0
                  · have hlen0 : len = 0 := by
                      rcases Nat.mul_eq_zero.1 h0 with h0 | h0
                      · exact h0
                      · omega
                    subst hlen0
                    have e0 : Array.range 0 = #[] := rfl
                    simp only [Nat.zero_mul, e0, Array.map_empty] at hfill
                    have e1 : (parts.map fun (i, x) => (i, ev tm x)).toList = List.map (fun x => (x.fst, ev tm x.snd)) parts.toList := by simp
                    rw [e1] at hfill
                    simp [Instr.buildSlice, run_underlying hu, sizeOf, typeInfo, z1, hplace, newRow, e0]
                    rw [hfill]
                    simp
                  · simp only [Instr.buildSlice, Sem.run_bind, run_underlying hu, Result.andThen_ok, sizeOf, typeInfo, run_program, z1, Sem.run_pure, Sem.run_map, zeroValue, z2, h24, if_false, h0, hplace, hfill]
                    simp [z1, z2, newRow, hfill]
                · intro ef hef
                  unfold effCut at hef
                  simp only [hu] at hef
                  rw [if_pos (show len * P.cellsOf e ≤ 16777216 ∧ P.cellsOf e = 1 from ⟨hc1, hc2⟩)] at hef
                  rw [show partsOf P (⟨⟨some ⟨w.heap.size, 0, none⟩, len⟩, gnil, (callΩ (⟨.one, hds.map SC.c⟩ : SV Gh)).dec⟩ : Orc Gh) Γ (fieldTy P ty) parts.toList = some ps by rw [← hps]; exact partsOf_nil (Ω := ⟨_, gnil, _⟩) (Ω' := goodΩ gnil) (by rfl) _] at hef
                  rw [show zeroCellsOf P gnil e = some z from hz] at hef
                  simp only [hr, hws, hl, hrow] at hef
                  rw [if_pos ⟨hzl, hrt, hch, hkl, hdis⟩] at hef
                  simp only [Option.some.injEq] at hef
                  subst hef
                  rw [app_fin, hΩs]
                  have hcs : ∀ (i : Nat) (c : GC), row[i]? = some c → ∃ v, (rp.map Prod.snd).toArray[i]? = some v ∧ (c.isDead = true ∨ v = c.val) := by
                    intro i c hi
                    rw [hmf, List.getElem?_map] at hi
                    cases hq : rp[i]? with
                    | none => rw [hq] at hi; cases hi
                    | some q =>
                      rw [hq] at hi
                      simp only [Option.map_some, Option.some.injEq] at hi
                      subst hi
                      exact ⟨q.2, by simp [hq], hmem q (List.mem_of_getElem? hq)⟩
                  have hrpl : rp.length = row.length := by rw [hmf, List.length_map]
                  have hf := Inv.fresh (ys := row) (xs := []) (row := row) (cs := (rp.map Prod.snd).toArray) (e := e) (by simpa using hI) (List.Perm.refl _) hrh
                    hcs (c := .sl true (P.cellsOf e) ⟨some ⟨w.heap.size, 0, none⟩, len⟩ row)
                    (.inr ⟨_, _, rfl, by omega, by rw [hrl]; exact Nat.mul_mod_left _ _, by rw [hrl, Nat.mul_div_cancel _ (by omega)]; exact Nat.le_refl _, by simp [hrpl, hrl]⟩)
                  have hval : Cell.val (.sl true (P.cellsOf e) ⟨some ⟨w.heap.size, 0, none⟩, len⟩ row) = .slice (some ⟨w.heap.size, 0, none⟩) len len := by
                    simp only [Cell.val]; rw [hrl, Nat.mul_div_cancel _ (by omega)]
                  refine done_put (ys := [.sl true (P.cellsOf e) ⟨some ⟨w.heap.size, 0, none⟩, len⟩ row]) hf ht ⟨[_], ⟨⟨rfl, ?_⟩, trivial⟩, hval.symm⟩ ?_ (List.Perm.refl _)
                  · intro x hx
                    obtain ⟨k, e1, q1, q2, q3, q4⟩ := putHd_mem ws hds x hx
                    rw [q4]
                    refine partRel_of (Γ := Γ) ?_ (b7 k e1 _ q1 q2).1
                    intro p
                    rw [get_kill, getP_kill, ← ovGet_putAll, ovGet_free hch]
                  · intro x hx
                    simp only [one, List.mem_singleton] at hx
                    subst hx
                    refine ⟨hf.pool.1, rfl, ?_⟩
                    intro x hx
                    obtain ⟨k, e1, q1, q2, q3, q4⟩ := putHd_mem ws hds x hx
                    have hq := hat _ _ (b7 k e1 _ q1 q2).2
                    rw [q3]
                    refine ⟨?_, ?_⟩
                    · show row[e1.1]? = some .dead
                      rw [hmf, List.getElem?_map, hq]; rfl
                    · intro a ha
                      simp only [Cell.gh, Option.some.injEq] at ha
                      subst ha
                      rw [cell_alloc]
                      simp [hq]
              · cases he
            · cases he
          · cases he
        · cases he
      · cases he
    · cases he
  | _ => simp at he
end Go.Proofs.Ytnmocjhpbobahaa.L
namespace Go.Proofs.Ytnmocjhpbobahaa.L
open Go Go.RowKit

theorem sim_store {P : Program} {E : Env} {o : Oper} {ty : Nat} {x y : Operand} (ht : o.dst = none) (ho : o.op = .store ty x y) : Sim P E o := by
  intro w0 w Γ tm e hI he hd ds next Q hn
  have hnat := ieff_erase P E (goodΩ gnil) (goodΩ_ok gnil) Γ o
  rw [he] at hnat
  cases hi : ieff P E (goodΩ gnil) Γ o with
  | none => rw [hi] at hnat; cases hnat
  | some e' =>
    rw [hi] at hnat
    simp only [Option.map_some, Option.some.injEq] at hnat
    have hi2 : effStore P (goodΩ gnil) Γ ty x y = some e' := by
      unfold ieff at hi
      rw [ho, ht] at hi
      exact hi
    obtain ⟨w', hr, hk⟩ := store_ok hI rfl hi2
    unfold Oper.wp
    have hrun : (execOp (⟨tm, ds⟩ : Act).eval o).run P w = .ok .skip w' := by
      rw [ev_fun]
      unfold execOp
      rw [ho]
      simp [hr]
    rw [hrun, Oper.upon_skip, ht]
    exact hn _ _ _ hk (by rw [app_erase, hnat]) rfl (fun _ => rfl)

/-- EVERY OPERATION. -/
theorem sim {P : Program} {E : Env} (hE : EnvOk P E) (o : Oper) : Sim P E o := by
  -- nothing to show where there is no effect
  have hnone : (∀ σ : St Unit, ieff P E ΩU σ o = none) → Sim P E o := by
    intro h w0 w Γ tm e _ he
    rw [h] at he; cases he
  cases hd : o.dst with
  | none =>
    cases ho : o.op with
    | store ty x y => exact sim_store hd ho
    | _ => exact hnone fun σ => by unfold ieff; rw [ho, hd]
  | some t =>
    have hpure : (∀ {α : Type} (Ω : Orc α) (σ : St α), ieff P E Ω σ o = effPure P σ t o) → Sim P E o := by
      intro h
      refine sim_value hd ?_
      intro w0 w Γ tm hI ht hs
      obtain ⟨e', he'⟩ := eff_some gnil hs
      rw [h] at he'
      obtain ⟨v, hr, hk⟩ := pure_ok hI ht he'
      exact ⟨gnil, v, w, hr, fun e2 h2 => by rw [h, he'] at h2; cases h2; exact hk⟩
    cases ho : o.op with
    | store ty x y => exact hnone fun σ => by unfold ieff; rw [ho, hd]
    | move x =>
      refine sim_value hd ?_
      intro w0 w Γ tm hI ht hs
      refine ⟨gnil, ev tm x, w, by unfold execOp; rw [ho]; rfl, fun e2 h2 => ?_⟩
      unfold ieff at h2
      rw [ho, hd] at h2
      exact move_ok hI rfl ht h2
    | assign x =>
      refine sim_value hd ?_
      intro w0 w Γ tm hI ht hs
      obtain ⟨e', he'⟩ := eff_some gnil hs
      unfold ieff at he'
      rw [ho, hd] at he'
      obtain ⟨a, ha⟩ := assign_ok hI ht gnil (by rw [show effAssign P (goodΩ gnil) Γ t o.type x = some e' from he']; rfl)
      refine ⟨a, ev tm x, w, by unfold execOp; rw [ho]; rfl, fun e2 h2 => ?_⟩
      unfold ieff at h2
      rw [ho, hd] at h2
      exact ha e2 h2
    | alloc e =>
      refine sim_value hd ?_
      intro w0 w Γ tm hI ht hs
      obtain ⟨e', he'⟩ := eff_some ⟨some ⟨w.heap.size, 0, none⟩, 0⟩ hs
      have h1 := he'
      unfold ieff at h1
      rw [ho, hd] at h1
      obtain ⟨v, w', hr, hk⟩ := alloc_ok hI ht h1
      exact ⟨_, v, w', by unfold execOp; rw [ho]; simp [hr], fun e2 h2 => by rw [he'] at h2; cases h2; exact hk⟩
    | box e x =>
      refine sim_value hd ?_
      intro w0 w Γ tm hI ht hs
      obtain ⟨e', he'⟩ := eff_some ⟨some ⟨w.heap.size, 0, none⟩, 0⟩ hs
      have h1 := he'
      unfold ieff at h1
      rw [ho, hd] at h1
      obtain ⟨v, w', hr, hk⟩ := box_ok hI ht h1
      exact ⟨_, v, w', by unfold execOp; rw [ho]; simp [hr], fun e2 h2 => by rw [he'] at h2; cases h2; exact hk⟩
    | build ty parts =>
      refine sim_value hd ?_
      intro w0 w Γ tm hI ht hs
      obtain ⟨e', he'⟩ := eff_some gnil hs
      have h1 := he'
      unfold ieff at h1
      rw [ho, hd] at h1
      obtain ⟨v, hr, hk⟩ := build_ok hI rfl ht h1
      exact ⟨_, v, w, by unfold execOp; rw [ho]; simp [hr], fun e2 h2 => by rw [he'] at h2; cases h2; exact hk⟩
    | buildSlice ty len parts =>
      refine sim_valueΩ hd ?_
      intro w0 w Γ tm hI ht hs
      have hs0 := hs
      unfold ieff at hs0
      rw [ho, hd] at hs0
      simp only [effBuildSlice_erase P (goodΩ ⟨some ⟨w.heap.size, 0, none⟩, len⟩)] at hs0
      cases hb : effBuildSlice P (goodΩ ⟨some ⟨w.heap.size, 0, none⟩, len⟩) Γ t ty len parts.toList with
      | some e0 =>
        obtain ⟨v, w', hr, hk⟩ := buildSlice_ok hI ht hb
        refine ⟨goodΩ ⟨some ⟨w.heap.size, 0, none⟩, len⟩, v, w', goodΩ_ok _, by unfold execOp; rw [ho]; simp [hr], fun e2 h2 => ?_⟩
        unfold ieff at h2
        rw [ho, hd] at h2
        simp only [hb, orElse, Option.some.injEq] at h2
        subst h2
        exact hk
      | none =>
        rw [hb] at hs0
        simp only [Option.map_none, orElse] at hs0
        obtain ⟨Ω, v, w', hΩ, hr, hk⟩ := cut_ok hI ht hs0
        refine ⟨Ω, v, w', hΩ, by unfold execOp; rw [ho]; simp [hr], fun e2 h2 => ?_⟩
        have hbn : effBuildSlice P Ω Γ t ty len parts.toList = none := by
          have e1 := effBuildSlice_erase P Ω Γ t ty len parts.toList
          rw [effBuildSlice_erase P (goodΩ ⟨some ⟨w.heap.size, 0, none⟩, len⟩), hb] at e1
          cases hx : effBuildSlice P Ω Γ t ty len parts.toList with
          | none => rfl
          | some _ => rw [hx] at e1; cases e1
        unfold ieff at h2
        rw [ho, hd] at h2
        simp only [hbn, orElse] at h2
        exact hk e2 h2
    | makeSlice ty x y =>
      refine sim_value hd ?_
      intro w0 w Γ tm hI ht hs
      obtain ⟨e0, he0⟩ := eff_some gnil hs
      unfold ieff at he0
      rw [ho, hd] at he0
      have hcap : ∃ c, natOf? Γ y = some c := by
        cases hy : natOf? Γ y with
        | some c => exact ⟨c, rfl⟩
        | none =>
          exfalso
          simp only [effMake, hy] at he0
          cases hu : P.underlying ty with
          | none => rw [hu] at he0; cases he0
          | some d => rw [hu] at he0; cases d <;> first | (cases he0; done) | (cases hx : natOf? Γ x <;> rw [hx] at he0 <;> cases he0)
      obtain ⟨c, hcap⟩ := hcap
      obtain ⟨e', he'⟩ := eff_some ⟨some ⟨w.heap.size, 0, none⟩, c⟩ hs
      have h1 := he'
      unfold ieff at h1
      rw [ho, hd] at h1
      obtain ⟨v, w', hr, hk⟩ := make_ok hI ht hcap h1
      exact ⟨_, v, w', by unfold execOp; rw [ho]; simp [hr], fun e2 h2 => by rw [he'] at h2; cases h2; exact hk⟩
    | load ty x =>
      refine sim_value hd ?_
      intro w0 w Γ tm hI ht hs
      obtain ⟨e', he'⟩ := eff_some gnil hs
      have h1 := he'
      unfold ieff at h1
      rw [ho, hd] at h1
      obtain ⟨v, hr, hk⟩ := load_ok hI ht h1
      exact ⟨_, v, w, by unfold execOp; rw [ho]; simp [hr], fun e2 h2 => by rw [he'] at h2; cases h2; exact hk⟩
    | fieldAddr ty x f =>
      refine sim_value hd ?_
      intro w0 w Γ tm hI ht hs
      obtain ⟨e', he'⟩ := eff_some gnil hs
      have h1 := he'
      unfold ieff at h1
      rw [ho, hd] at h1
      obtain ⟨v, hr, hk⟩ := fieldAddr_ok hI ht h1
      exact ⟨_, v, w, by unfold execOp; rw [ho]; simp [hr], fun e2 h2 => by rw [he'] at h2; cases h2; exact hk⟩
    | indexAddr ty x y =>
      refine sim_value hd ?_
      intro w0 w Γ tm hI ht hs
      obtain ⟨e', he'⟩ := eff_some gnil hs
      have h1 := he'
      unfold ieff at h1
      rw [ho, hd] at h1
      obtain ⟨v, hr, hk⟩ := indexAddr_ok hI ht h1
      exact ⟨_, v, w, by unfold execOp; rw [ho]; simp [hr], fun e2 h2 => by rw [he'] at h2; cases h2; exact hk⟩
    | extract x i =>
      refine sim_value hd ?_
      intro w0 w Γ tm hI ht hs
      obtain ⟨e', he'⟩ := eff_some gnil hs
      have h1 := he'
      unfold ieff at h1
      rw [ho, hd] at h1
      obtain ⟨v, hr, hk⟩ := extract_ok (P := P) hI ht h1
      exact ⟨_, v, w, by unfold execOp; rw [ho]; simp [hr], fun e2 h2 => by rw [he'] at h2; cases h2; exact hk⟩
    | field ty x f =>
      refine sim_value hd ?_
      intro w0 w Γ tm hI ht hs
      obtain ⟨e0, he0⟩ := eff_some gnil hs
      unfold ieff at he0
      rw [ho, hd] at he0
      simp only at he0
      cases hp : effPure P Γ t o with
      | some q =>
        obtain ⟨v, hr, hk⟩ := pure_ok hI ht hp
        refine ⟨gnil, v, w, hr, fun e2 h2 => ?_⟩
        unfold ieff at h2
        rw [ho, hd] at h2
        simp only [hp, orElse, Option.some.injEq] at h2
        subst h2; exact hk
      | none =>
        rw [hp] at he0
        simp only [orElse] at he0
        obtain ⟨v, hr, hk⟩ := field_ok hI ht he0
        refine ⟨gnil, v, w, by unfold execOp; rw [ho]; simp [hr], fun e2 h2 => ?_⟩
        unfold ieff at h2
        rw [ho, hd] at h2
        simp only [hp, orElse] at h2
        rw [he0] at h2; cases h2; exact hk
    | nilCheck x =>
      refine sim_value hd ?_
      intro w0 w Γ tm hI ht hs
      obtain ⟨e', he'⟩ := eff_some gnil hs
      have h1 := he'
      unfold ieff at h1
      rw [ho, hd] at h1
      obtain ⟨hv, hk⟩ := nil_ok hI ht h1
      refine ⟨_, ev tm x, w, ?_, fun e2 h2 => by rw [he'] at h2; cases h2; exact hk⟩
      unfold execOp
      rw [ho]
      rcases hv with ⟨a, hv⟩ | ⟨a, l, c, hv⟩ <;> simp [hv]
    | slice ty x lo hi mx =>
      refine sim_value hd ?_
      intro w0 w Γ tm hI ht hs
      obtain ⟨e0, he0⟩ := eff_some gnil hs
      unfold ieff at he0
      rw [ho, hd] at he0
      simp only at he0
      cases hsl : effSlice P (goodΩ gnil) Γ t ty x lo hi mx with
      | some q =>
        obtain ⟨a, v, hr, hk⟩ := slice_ok hI ht gnil (by rw [hsl]; rfl)
        refine ⟨a, v, w, by unfold execOp; rw [ho]; simp [hr], fun e2 h2 => ?_⟩
        unfold ieff at h2
        rw [ho, hd] at h2
        simp only at h2
        cases hsa : effSlice P (goodΩ a) Γ t ty x lo hi mx with
        | some q2 => rw [hsa] at h2; simp only [orElse, Option.some.injEq] at h2; subst h2; exact hk q2 hsa
        | none =>
          exfalso
          have n1 := effSlice_erase P (goodΩ a) Γ t ty x lo hi mx
          have n2 := effSlice_erase P (goodΩ gnil) Γ t ty x lo hi mx
          rw [hsa] at n1; rw [hsl] at n2
          rw [n1] at n2; cases n2
      | none =>
        rw [hsl] at he0
        simp only [orElse] at he0
        cases hsa : effSliceArr P Γ t ty x lo hi mx with
        | some q =>
          rw [hsa] at he0
          obtain ⟨v, hr, hk⟩ := sliceArr_ok hI ht hsa
          refine ⟨gnil, v, w, by unfold execOp; rw [ho]; simp [hr], fun e2 h2 => ?_⟩
          unfold ieff at h2
          rw [ho, hd] at h2
          simp only [hsl, hsa, orElse, Option.some.injEq] at h2
          subst h2; exact hk
        | none =>
        rw [hsa] at he0
        simp only [orElse] at he0
        cases hsn : effSliceNil P (goodΩ gnil) Γ t ty o with
        | some q =>
          rw [hsn] at he0
          obtain ⟨v, hr, hk⟩ := sliceNil_ok hI gnil ht hsn
          refine ⟨gnil, v, w, hr, fun e2 h2 => ?_⟩
          unfold ieff at h2
          rw [ho, hd] at h2
          simp only [hsl, hsa, hsn, orElse, Option.some.injEq] at h2
          subst h2; exact hk
        | none =>
        rw [hsn] at he0
        simp only [orElse] at he0
        obtain ⟨v, hr, hk⟩ := pure_ok hI ht he0
        refine ⟨gnil, v, w, hr, fun e2 h2 => ?_⟩
        unfold ieff at h2
        rw [ho, hd] at h2
        simp only [hsl, hsa, hsn, orElse] at h2
        rw [he0] at h2; cases h2; exact hk
    | call c =>
      cases hc : c.callee with
      | value fo =>
        cases fo with
        | func f => exact sim_call hE hd ho hc
        | _ => exact hpure fun Ω σ => by unfold ieff; rw [ho, hd]; simp only [hc]
      | invoke r m => exact hpure fun Ω σ => by unfold ieff; rw [ho, hd]; simp only [hc]
      | builtin b =>
        have hres : ∀ (tm : Array Value), execOp (ev tm) o = builtin b c.argTypes o.type (c.args.map fun | .const _ => true | _ => false) (c.args.map (ev tm)) := by
          intro tm
          unfold execOp
          rw [ho]
          simp only [resolve, hc]
          rfl
        cases b with
        | append =>
          refine sim_value hd ?_
          intro w0 w Γ tm hI ht hs
          obtain ⟨e0, he0⟩ := eff_some gnil hs
          unfold ieff at he0
          rw [ho, hd] at he0
          simp only [hc] at he0
          obtain ⟨a, v, w', hr, hk⟩ := append_ok (rt := o.type) hI ht gnil (by rw [he0]; rfl)
          refine ⟨a, v, w', by rw [hres]; simp [builtin, hr], fun e2 h2 => ?_⟩
          unfold ieff at h2
          rw [ho, hd] at h2
          simp only [hc] at h2
          exact hk e2 h2
        | copy =>
          refine sim_value hd ?_
          intro w0 w Γ tm hI ht hs
          obtain ⟨e0, he0⟩ := eff_some gnil hs
          unfold ieff at he0
          rw [ho, hd] at he0
          simp only [hc] at he0
          obtain ⟨v, w', hr, hk⟩ := copy_ok (rt := o.type) hI ht he0
          refine ⟨gnil, v, w', by rw [hres]; simp [builtin, hr], fun e2 h2 => ?_⟩
          unfold ieff at h2
          rw [ho, hd] at h2
          simp only [hc] at h2
          rw [he0] at h2; cases h2; exact hk
        | len =>
          refine sim_value hd ?_
          intro w0 w Γ tm hI ht hs
          obtain ⟨e0, he0⟩ := eff_some gnil hs
          unfold ieff at he0
          rw [ho, hd] at he0
          simp only [hc] at he0
          cases hl : effLen P Γ t c.args.toList c.argTypes.toList with
          | some q =>
            obtain ⟨v, hr, hk⟩ := len_ok (rt := o.type) hI ht hl
            refine ⟨gnil, v, w, by rw [hres]; simp [builtin, hr], fun e2 h2 => ?_⟩
            unfold ieff at h2
            rw [ho, hd] at h2
            simp only [hc, hl, orElse, Option.some.injEq] at h2
            subst h2; exact hk
          | none =>
            rw [hl] at he0
            simp only [orElse] at he0
            obtain ⟨v, hr, hk⟩ := pure_ok hI ht he0
            refine ⟨gnil, v, w, hr, fun e2 h2 => ?_⟩
            unfold ieff at h2
            rw [ho, hd] at h2
            simp only [hc, hl, orElse] at h2
            rw [he0] at h2; cases h2; exact hk
        | _ => exact hpure fun Ω σ => by unfold ieff; rw [ho, hd]; simp only [hc]
    | binOp op ty x y r =>
      refine sim_value hd ?_
      intro w0 w Γ tm hI ht hs
      obtain ⟨e0, he0⟩ := eff_some gnil hs
      unfold ieff at he0
      rw [ho, hd] at he0
      simp only at he0
      cases hp : effPure P Γ t o with
      | some q =>
        rw [hp] at he0
        obtain ⟨v, hr, hk⟩ := pure_ok hI ht hp
        refine ⟨gnil, v, w, hr, fun e2 h2 => ?_⟩
        unfold ieff at h2
        rw [ho, hd] at h2
        simp only [hp, orElse, Option.some.injEq] at h2
        subst h2; exact hk
      | none =>
        rw [hp] at he0
        simp only [orElse] at he0
        obtain ⟨v, hr, hk⟩ := nilCmp_ok hI ho ht he0
        refine ⟨gnil, v, w, hr, fun e2 h2 => ?_⟩
        unfold ieff at h2
        rw [ho, hd] at h2
        simp only [hp, orElse] at h2
        rw [he0] at h2; cases h2; exact hk
    | _ => exact hpure fun Ω σ => by unfold ieff; rw [ho, hd]
end Go.Proofs.Ytnmocjhpbobahaa.L
namespace Go.Proofs.Ytnmocjhpbobahaa.L
open Go Go.RowKit

/-- The bare state tells what the machine's slots hold. -/
def zeroN : Nat := 1048576
/-- How many slots: a number from zeroN on says besides that slot 0 is never laid anew (what is lent lies there). -/
def tmN (N : Nat) : Nat := if N < zeroN then N else N - zeroN
def dstB (N t : Nat) : Bool := if N < zeroN then decide (t < N) else decide (t ≠ 0 ∧ t < N - zeroN)
theorem dstB_lt {N t : Nat} (h : dstB N t = true) : t < tmN N := by
  unfold dstB at h; unfold tmN
  split at h
  · next hz => rw [if_pos hz]; simpa using h
  · next hz => rw [if_neg hz]; simp only [decide_eq_true_eq] at h; exact h.2
theorem dstB_ne {N t : Nat} (h : dstB N t = true) (hz : ¬ N < zeroN) : t ≠ 0 := by
  unfold dstB at h
  rw [if_neg hz] at h
  simp only [decide_eq_true_eq] at h; exact h.1
def Rel (w0 : W0) (N : Nat) (σ : St Unit) (tm : Array Value) (w : World) : Prop := ∃ Γ : St Gh, Γ.erase = σ ∧ Inv w0 Γ [] tm w ∧ tm.size = tmN N ∧ (¬ N < zeroN → tm.getD 0 undef = w0.arg)

section
variable {α : Type}
/-- Only the slots of K are kept; what leads elsewhere is forgotten. -/
def SC.only (K : List Nat) (x : SC α) : SC α := match x with
  | .view r p => if K.contains r then .view r p else .dead
  | .win r p lo n f => if K.contains r then .win r p lo n f else .dead
  | .ref r p off m => if K.contains r then .ref r p off m else .dead
  | .cut _ _ _ => .dead
  | x => x
def SV.only (K : List Nat) (v : SV α) : SV α := ⟨v.k, v.cs.map (SC.only K)⟩
def St.only (K : List Nat) : St α → St α
  | [] => []
  | (s, v) :: l => if K.contains s then (s, v.only K) :: St.only K l else St.only K l
theorem get_only (K : List Nat) (σ : St α) (t : Nat) : (St.only K σ).get t = if K.contains t then (σ.get t).only K else SV.dead := by
  induction σ with
  | nil => simp [St.only, get_nil, SV.only, SV.dead, SC.only]
  | cons x l ih =>
    obtain ⟨s, v⟩ := x
    simp only [St.only]
    split
    · next hs =>
      by_cases hts : t = s
      · subst hts
        rw [if_pos hs]
        simp [St.get, List.lookup]
      · have : (t == s) = false := by simpa using hts
        simp only [St.get, List.lookup, this] at ih ⊢
        exact ih
    · next hs =>
      rw [ih]
      by_cases hts : t = s
      · subst hts
        rw [if_neg hs, if_neg hs]
      · have : (t == s) = false := by simpa using hts
        simp only [St.get, List.lookup, this]
theorem only_erase (K : List Nat) (σ : St α) : (St.only K σ).erase = St.only K σ.erase := by
  induction σ with
  | nil => rfl
  | cons x l ih =>
    obtain ⟨s, v⟩ := x
    have hsc : ∀ x : SC α, (SC.only K x).erase = SC.only K x.erase := by
      intro x
      cases x with
      | view r p =>
        by_cases hr : K.contains r = true
        · simp only [SC.only, SC.erase, if_pos hr]
        · simp only [SC.only, SC.erase, if_neg hr]
      | win r p lo n f =>
        by_cases hr : K.contains r = true
        · simp only [SC.only, SC.erase, if_pos hr]
        · simp only [SC.only, SC.erase, if_neg hr]
      | ref r p off m =>
        by_cases hr : K.contains r = true
        · simp only [SC.only, SC.erase, if_pos hr]
        · simp only [SC.only, SC.erase, if_neg hr]
      | _ => rfl
    have hsv : (v.only K).erase = v.erase.only K := by simp [SV.only, SV.erase, hsc]
    simp only [St.only, St.erase, List.map_cons] at ih ⊢
    split
    · simp only [List.map_cons, hsv]; rw [ih]
    · exact ih
end

theorem only_cell (K : List Nat) (x : SC Gh) : (SC.only K x).cell = x.cell ∨ (SC.only K x).cell = .dead := by
  cases x with
  | view r p =>
    by_cases hr : K.contains r = true
    · left; simp only [SC.only, if_pos hr]
    · right; simp only [SC.only, if_neg hr]; rfl
  | win r p lo n f =>
    by_cases hr : K.contains r = true
    · left; simp only [SC.only, if_pos hr]
    · right; simp only [SC.only, if_neg hr]; rfl
  | ref r p off m =>
    by_cases hr : K.contains r = true
    · left; simp only [SC.only, if_pos hr]
    · right; simp only [SC.only, if_neg hr]; rfl
  | cut r x ws => exact .inr rfl
  | _ => exact .inl rfl
theorem getP_only (K : List Nat) (v : SV Gh) (p : List Nat) : (v.only K).getP p = v.getP p := by
  cases p with
  | nil => rfl
  | cons j q =>
    simp only [SV.getP, SV.only, List.getElem?_map]
    cases h : v.cs[j]? with
    | none => rfl
    | some x =>
      simp only [Option.map_some]
      cases x with
      | view r p =>
        by_cases hr : K.contains r = true
        · simp only [SC.only, if_pos hr]
        · simp only [SC.only, if_neg hr]
      | win r p lo n f =>
        by_cases hr : K.contains r = true
        · simp only [SC.only, if_pos hr]
        · simp only [SC.only, if_neg hr]
      | ref r p off m =>
        by_cases hr : K.contains r = true
        · simp only [SC.only, if_pos hr]
        · simp only [SC.only, if_neg hr]
      | _ => rfl
theorem dead_rel (Γ : St Gh) (u : Value) : svRel Γ SV.dead u := ⟨[u], ⟨trivial, trivial⟩, rfl⟩
theorem footV_only (K : List Nat) (v : SV Gh) : (footV (v.only K)).Sublist (footV v) := by
  obtain ⟨k, cs⟩ := v
  simp only [footV, SV.only]
  induction cs with
  | nil => exact List.Sublist.refl _
  | cons x l ih =>
    simp only [List.map_cons, footL]
    refine List.Sublist.append ?_ ih
    rcases only_cell K x with e | e <;> rw [e]
    · exact List.Sublist.refl _
    · exact List.nil_sublist _
theorem Inv.only {w0 : W0} {w : World} {Γ : St Gh} {tm : Array Value} (h : Inv w0 Γ [] tm w) (K : List Nat) : Inv w0 (St.only K Γ) [] tm w := by
  have hsc : ∀ x u, scRel Γ x u → scRel (St.only K Γ) (SC.only K x) u := by
    intro x u hu
    have key : ∀ r, K.contains r = true → ∀ q z, (Γ.get r).getP q = some z → ∃ z', ((St.only K Γ).get r).getP q = some z' ∧ z'.head = z.head := by
      intro r hr q z hz
      rw [get_only, if_pos hr, getP_only]
      exact ⟨z, hz, rfl⟩
    cases x with
    | view r p =>
      simp only [SC.only]
      split
      · next hr => exact scRel_head hu (fun r' q z hroot hf hz => by simp only [SC.root, Option.some.injEq] at hroot; subst hroot; exact key r hr q z hz)
      · trivial
    | win r p lo n f =>
      simp only [SC.only]
      split
      · next hr => exact scRel_head hu (fun r' q z hroot hf hz => by simp only [SC.root, Option.some.injEq] at hroot; subst hroot; exact key r hr q z hz)
      · trivial
    | ref r p off m =>
      simp only [SC.only]
      split
      · next hr => exact scRel_head hu (fun r' q z hroot hf hz => by simp only [SC.root, Option.some.injEq] at hroot; subst hroot; exact key r hr q z hz)
      · trivial
    | c y => exact hu
    | fref g row off => exact hu
    | cut r y ws => trivial
    | dead => trivial
  have hfoot : ∀ s b, b ∈ footV ((St.only K Γ).get s) → b ∈ footV (Γ.get s) := by
    intro s b hb
    rw [get_only] at hb
    split at hb
    · exact (footV_only _ _).subset hb
    · simp [footV, SV.dead, SC.cell, footL, foot] at hb
  refine ⟨h.below, ?_, ?_, trivial, ?_, fun s t b hs ht => h.dis s t b (hfoot s b hs) (hfoot t b ht), h.nodP, fun s b hb => by simp [footL]⟩
  · intro s
    rw [get_only]
    split
    · obtain ⟨vs, h1, h2⟩ := h.rel s
      refine ⟨vs, rels_mono h1 (by simp [SV.only]) ?_, h2⟩
      intro i x x' u hx hx' hr
      simp only [SV.only, List.getElem?_map, hx, Option.map_some, Option.some.injEq] at hx'
      subst hx'
      exact hsc x u hr
    · exact dead_rel _ _
  · intro s x hx
    rw [get_only] at hx
    split at hx
    · simp only [SV.only, List.mem_map] at hx
      obtain ⟨y, hy, rfl⟩ := hx
      have := h.hold s y hy
      cases y with
      | c z => exact this
      | fref g row off => exact this
      | cut r y ws => trivial
      | view r p =>
        by_cases hr : K.contains r = true
        · simp only [SC.only, if_pos hr]; trivial
        · simp only [SC.only, if_neg hr]; trivial
      | win r p lo n f =>
        by_cases hr : K.contains r = true
        · simp only [SC.only, if_pos hr]; trivial
        · simp only [SC.only, if_neg hr]; trivial
      | ref r p off m =>
        by_cases hr : K.contains r = true
        · simp only [SC.only, if_pos hr]; trivial
        · simp only [SC.only, if_neg hr]; trivial
      | dead => trivial
    · simp only [SV.dead, List.mem_singleton] at hx; subst hx; trivial
  · intro s
    rw [get_only]
    split
    · exact (footV_only _ _).nodup (h.nod s)
    · simp [footV, SV.dead, SC.cell, footL, foot]
theorem Rel.only {w0 : W0} {w : World} {N : Nat} {σ : St Unit} {tm : Array Value} (h : Rel w0 N σ tm w) (K : List Nat) : Rel w0 N (St.only K σ) tm w := by
  obtain ⟨Γ, h1, h2, h3⟩ := h
  exact ⟨St.only K Γ, by rw [only_erase, h1], h2.only K, h3⟩

/-! ### one operation of a region -/
def undefSV {α : Type} : SV α := ⟨.tup [], []⟩
def wantedS (σ : St Unit) (ops : Array Oper) (o : Oper) : Option Bool := match o.guard with
  | none => some true
  | some (j, w) => match (ops[j]?).bind (·.dst) with
    | some t => match (σ.get t).val with
      | some (.bool b) => some (b == w)
      | some _ => some false
      | none => none
    | none => some false
def dstOk (N : Nat) (o : Oper) : Bool := match o.dst with
  | some t => dstB N t
  | none => true
def stepOp (P : Program) (E : Env) (N : Nat) (ops : Array Oper) (σ : St Unit) (o : Oper) : Option (St Unit) := match wantedS σ ops o with
  | some true => if dstOk N o then match ieff P E ΩU σ o with
    | some e => some (σ.app e)
    | none => none else none
  | some false => if dstOk N o then match o.dst with
    | some t => some (σ.app (effPut t undefSV))
    | none => some σ else none
  | none => none

theorem wantedS_ok {w0 : W0} {w : World} {N : Nat} {σ : St Unit} {tm : Array Value} (h : Rel w0 N σ tm w) {ops : Array Oper} {o : Oper} {b : Bool} (hw : wantedS σ ops o = some b) : Region.wanted o (yielded ops tm) = b := by
  obtain ⟨Γ, rfl, hI, _⟩ := h
  unfold wantedS at hw
  unfold Region.wanted
  cases hg : o.guard with
  | none => rw [hg] at hw; simp only [Option.some.injEq] at hw; exact hw
  | some jw =>
    obtain ⟨j, want⟩ := jw
    rw [hg] at hw
    simp only at hw ⊢
    unfold yielded
    cases ht : (ops[j]?).bind (·.dst) with
    | none => rw [ht] at hw; simp only [Option.some.injEq] at hw; subst hw; rfl
    | some t =>
      rw [ht] at hw
      simp only [get_erase, val_erase] at hw
      cases hv : (Γ.get t).val with
      | none => rw [hv] at hw; cases hw
      | some v =>
        rw [hv] at hw
        have htm := val_ok hv (hI.rel t)
        have hsome : ∀ u, tm[t]? = some u → u = v := by
          intro u hu
          rw [← htm, Array.getD_eq_getD_getElem?, hu]; rfl
        simp only [Option.bind_some]
        cases v with
        | bool bb =>
          simp only [Option.some.injEq] at hw
          subst hw
          cases htt : tm[t]? with
          | none => rw [Array.getD_eq_getD_getElem?, htt] at htm; cases htm
          | some u => rw [hsome u htt]; rfl
        | _ =>
          simp only [Option.some.injEq] at hw
          subst hw
          cases htt : tm[t]? with
          | none => rfl
          | some u => rw [hsome u htt]; rfl

theorem step_ok {P : Program} {E : Env} (hE : EnvOk P E) {w0 : W0} {w : World} {N : Nat} {σ σ' : St Unit} {tm : Array Value} (h : Rel w0 N σ tm w) {ops : Array Oper} {o : Oper} (hs : stepOp P E N ops σ o = some σ')
    {ds : List Deferred} {K : Act → World → Prop} {Q : Exit → Act → World → Prop} (hk : ∀ tm' w', Rel w0 N σ' tm' w' → K ⟨tm', ds⟩ w') :
    if Region.wanted o (yielded ops tm) then o.wp P ⟨tm, ds⟩ w K Q ∨ (o.asks P ⟨tm, ds⟩ w ∧ LetsOut Q) else K ((⟨tm, ds⟩ : Act).put o.dst undef) w := by
  unfold stepOp at hs
  split at hs
  · next hw =>
    rw [wantedS_ok h hw]
    simp only [if_true]
    left
    split at hs
    · next hd =>
      split at hs
      · next e he =>
        simp only [Option.some.injEq] at hs
        subst hs
        obtain ⟨Γ, rfl, hI, hN⟩ := h
        refine sim hE o w0 w Γ tm e hI he ?_ ds K Q ?_
        · intro t ht
          unfold dstOk at hd
          rw [ht] at hd
          rw [hN.1]; exact dstB_lt hd
        · intro Γ' tm' w' h1 h2 h3 h4
          refine hk tm' w' ⟨Γ', h2, h1, h3.trans hN.1, fun hz => ?_⟩
          rw [h4 ?_, hN.2 hz]
          intro h0
          unfold dstOk at hd
          rw [h0] at hd
          exact dstB_ne hd hz rfl
      · cases hs
    · cases hs
  · next hw =>
    rw [wantedS_ok h hw]
    simp only [Bool.false_eq_true, if_false]
    split at hs
    · next hd =>
      split at hs
      · next t ht =>
        simp only [Option.some.injEq] at hs
        subst hs
        obtain ⟨Γ, rfl, hI, hN⟩ := h
        rw [ht]
        unfold dstOk at hd
        rw [ht] at hd
        refine hk _ _ ⟨Γ.app (effPut t undefSV), by rw [app_erase]; rfl, ?_, by simpa using hN.1, fun hz => ?_⟩
        · exact done_view hI (by rw [hN.1]; exact dstB_lt hd) ⟨[], trivial, rfl⟩ (by simp [undefSV]) rfl
        · rw [← hN.2 hz]; exact set_zero (dstB_ne hd hz)
      · next ht =>
        simp only [Option.some.injEq] at hs
        subst hs
        rw [ht]
        exact hk _ _ h
    · cases hs
  · cases hs

/-- Operations one behind the other. -/
def seqL (P : Program) (E : Env) (N : Nat) (ops : Array Oper) : List Oper → St Unit → Option (St Unit)
  | [], σ => some σ
  | o :: l, σ => match stepOp P E N ops σ o with
    | some σ' => seqL P E N ops l σ'
    | none => none
theorem seqL_ok {P : Program} {E : Env} (hE : EnvOk P E) {w0 : W0} {N : Nat} {ops : Array Oper} {ds : List Deferred} {Q : Exit → Act → World → Prop} : ∀ (l : List Oper) (is : List Nat) (σ σ' : St Unit) (tm : Array Value) (w : World),
    is.length = l.length → (∀ (k i : Nat), is[k]? = some i → ops[i]? = l[k]?) → Rel w0 N σ tm w → seqL P E N ops l σ = some σ' → (∀ tm' w', Rel w0 N σ' tm' w' → Q .normal ⟨tm', ds⟩ w') → wpOps P ops Q is ⟨tm, ds⟩ w
  | [], is, σ, σ', tm, w, hl, _, h, hs, hq => by
    simp only [seqL, Option.some.injEq] at hs
    subst hs
    cases is with
    | nil => exact hq tm w h
    | cons i is => simp at hl
  | o :: l, is, σ, σ', tm, w, hl, hi, h, hs, hq => by
    cases is with
    | nil => simp at hl
    | cons i is =>
      have ho : ops[i]? = some o := hi 0 i rfl
      simp only [seqL] at hs
      split at hs
      · next σ1 h1 =>
        simp only [wpOps, ho]
        refine step_ok hE h h1 ?_
        intro tm' w' h2
        exact seqL_ok hE l is σ1 σ' tm' w' (by simpa using hl) (fun k i hk => hi (k + 1) i (by simpa using hk)) h2 hs hq
      · cases hs

/-- A region in order. -/
theorem seq_region {P : Program} {E : Env} (hE : EnvOk P E) {w0 : W0} {w : World} {N id : Nat} {ops : Array Oper} {ds : List Deferred} {Q : Exit → Act → World → Prop} {σ σ' : St Unit} {tm : Array Value} (h : Rel w0 N σ tm w)
    (hs : seqL P E N ops ops.toList σ = some σ') (hq : ∀ tm' w', Rel w0 N σ' tm' w' → Q .normal ⟨tm', ds⟩ w') : (Code.region id ops false).wp P Q ⟨tm, ds⟩ w := by
  refine wp_region (seqL_ok hE ops.toList _ σ σ' tm w (by simp) ?_ h hs hq)
  intro k i hk
  have hlt : k < ops.size := by have := (List.getElem?_eq_some_iff.1 hk).1; simpa using this
  rw [List.getElem?_range hlt] at hk
  simp only [Option.some.injEq] at hk
  subst hk
  simp
end Go.Proofs.Ytnmocjhpbobahaa.L
namespace Go.Proofs.Ytnmocjhpbobahaa.L
open Go Go.RowKit

inductive Ex where
  | normal
  | exit (id : Nat)
  | goto (l : Nat)
  | ret
  deriving DecidableEq
def Ex.toExit : Ex → Exit
  | .normal => .normal
  | .exit id => .exit id
  | .goto l => .goto l
  | .ret => .ret

/-- What becomes of the trees in a region. -/
abbrev Reg := Nat → Array Oper → Bool → St Unit → Option (St Unit)
def RegOk (P : Program) (N : Nat) (reg : Reg) (T : Nat → Array Oper → Bool → Bool) : Prop := ∀ (w0 : W0) (w : World) (id : Nat) (ops : Array Oper) (draw : Bool) (σ σ' : St Unit) (tm : Array Value) (ds : List Deferred) (Q : Exit → Act → World → Prop),
  T id ops draw = true → reg id ops draw σ = some σ' → Rel w0 N σ tm w → (∀ tm' w', Rel w0 N σ' tm' w' → Q .normal ⟨tm', ds⟩ w') → (Code.region id ops draw).wp P Q ⟨tm, ds⟩ w
/-- Every region of the code. -/
def codeAll (T : Nat → Array Oper → Bool → Bool) : Code → Bool
  | .region id ops draw => T id ops draw
  | .seq a b => codeAll T a && codeAll T b
  | .cond _ a b => codeAll T a && codeAll T b
  | .block _ a => codeAll T a
  | .loop a => codeAll T a
  | .scope a => codeAll T a
  | _ => true

def run (reg : Reg) : Nat → Code → St Unit → Option (Ex × St Unit)
  | 0, _, _ => none
  | n + 1, c, σ => match c with
    | .skip => some (.normal, σ)
    | .label _ => some (.normal, σ)
    | .region id ops draw => match reg id ops draw σ with
      | some σ' => some (.normal, σ')
      | none => none
    | .seq a b => match run reg n a σ with
      | some (e, σ') => match e with
        | .normal => run reg n b σ'
        | e => some (e, σ')
      | none => none
    | .cond x a b => match valOf σ x with
      | some v => match v with
        | .bool t => if t = true then run reg n a σ else run reg n b σ
        | _ => none
      | none => none
    | .block id a => match run reg n a σ with
      | some (e, σ') => match e with
        | .exit i => if i = id then some (.normal, σ') else some (.exit i, σ')
        | e => some (e, σ')
      | none => none
    | .loop a => match run reg n a σ with
      | some (e, σ') => match e with
        | .normal => run reg n (.loop a) σ'
        | e => some (e, σ')
      | none => none
    | .scope a => match run reg n a σ with
      | some (e, σ') => match e with
        | .goto _ => none
        | e => some (e, σ')
      | none => none
    | .exit i => some (.exit i, σ)
    | .goto l => some (.goto l, σ)
    | .ret => some (.ret, σ)
    | _ => none

theorem run_ok {P : Program} {N : Nat} {reg : Reg} {T : Nat → Array Oper → Bool → Bool} (hR : RegOk P N reg T) {w0 : W0} {ds : List Deferred} : ∀ (n : Nat) (c : Code) (σ σ' : St Unit) (e : Ex) (tm : Array Value) (w : World) (Q : Exit → Act → World → Prop),
    codeAll T c = true → run reg n c σ = some (e, σ') → Rel w0 N σ tm w → (∀ tm' w', Rel w0 N σ' tm' w' → Q e.toExit ⟨tm', ds⟩ w') → c.wp P Q ⟨tm, ds⟩ w := by
  intro n
  induction n using Nat.strongRecOn with
  | _ n ih =>
    intro c σ σ' e tm w Q hc hr h hq
    cases n with
    | zero => simp [run] at hr
    | succ n =>
      have IH := ih n (Nat.lt_succ_self n)
      cases c with
      | skip =>
        simp only [run, Option.some.injEq, Prod.mk.injEq] at hr
        obtain ⟨rfl, rfl⟩ := hr
        exact wp_skip (hq tm w h)
      | label l =>
        simp only [run, Option.some.injEq, Prod.mk.injEq] at hr
        obtain ⟨rfl, rfl⟩ := hr
        exact wp_label (hq tm w h)
      | exit i =>
        simp only [run, Option.some.injEq, Prod.mk.injEq] at hr
        obtain ⟨rfl, rfl⟩ := hr
        exact wp_exit (hq tm w h)
      | goto l =>
        simp only [run, Option.some.injEq, Prod.mk.injEq] at hr
        obtain ⟨rfl, rfl⟩ := hr
        exact wp_goto (hq tm w h)
      | ret =>
        simp only [run, Option.some.injEq, Prod.mk.injEq] at hr
        obtain ⟨rfl, rfl⟩ := hr
        exact wp_ret (hq tm w h)
      | region id ops draw =>
        simp only [run] at hr
        split at hr
        · next σ1 h1 =>
          simp only [Option.some.injEq, Prod.mk.injEq] at hr
          obtain ⟨rfl, rfl⟩ := hr
          exact hR w0 w id ops draw σ σ1 tm ds Q hc h1 h hq
        · cases hr
      | seq a b =>
        simp only [codeAll, Bool.and_eq_true] at hc
        simp only [run] at hr
        split at hr
        · next e1 σ1 h1 =>
          refine wp_seq (IH a σ σ1 e1 tm w _ hc.1 h1 h ?_)
          intro tm' w' h2
          cases e1 with
          | normal => exact IH b σ1 σ' e tm' w' Q hc.2 hr h2 hq
          | exit i => simp only [Option.some.injEq, Prod.mk.injEq] at hr; obtain ⟨rfl, rfl⟩ := hr; exact hq tm' w' h2
          | goto l => simp only [Option.some.injEq, Prod.mk.injEq] at hr; obtain ⟨rfl, rfl⟩ := hr; exact hq tm' w' h2
          | ret => simp only [Option.some.injEq, Prod.mk.injEq] at hr; obtain ⟨rfl, rfl⟩ := hr; exact hq tm' w' h2
        · cases hr
      | cond x a b =>
        simp only [codeAll, Bool.and_eq_true] at hc
        simp only [run] at hr
        split at hr
        · next v hv =>
          split at hr
          · next t =>
            obtain ⟨Γ, rfl, hI, hN⟩ := h
            have hx : (⟨tm, ds⟩ : Act).eval x = .bool t := by
              rw [ev_eq]
              rw [valOf_erase] at hv
              exact valOf_ok hI hv
            refine wp_cond hx ?_
            cases t with
            | true => simp only [if_true] at hr ⊢; exact IH a _ σ' e tm w Q hc.1 hr ⟨Γ, rfl, hI, hN⟩ hq
            | false => simp only [Bool.false_eq_true, if_false] at hr ⊢; exact IH b _ σ' e tm w Q hc.2 hr ⟨Γ, rfl, hI, hN⟩ hq
          · cases hr
        · cases hr
      | block id a =>
        simp only [run] at hr
        split at hr
        · next e1 σ1 h1 =>
          refine wp_block (IH a σ σ1 e1 tm w _ hc h1 h ?_)
          intro tm' w' h2
          cases e1 with
          | exit i =>
            simp only at hr
            split at hr
            · next hi =>
              simp only [Option.some.injEq, Prod.mk.injEq] at hr
              obtain ⟨rfl, rfl⟩ := hr
              simp only [Ex.toExit, Exit.inBlock, hi, if_true]
              exact hq tm' w' h2
            · next hi =>
              simp only [Option.some.injEq, Prod.mk.injEq] at hr
              obtain ⟨rfl, rfl⟩ := hr
              simp only [Ex.toExit, Exit.inBlock, hi, if_false]
              exact hq tm' w' h2
          | normal => simp only [Option.some.injEq, Prod.mk.injEq] at hr; obtain ⟨rfl, rfl⟩ := hr; exact hq tm' w' h2
          | goto l => simp only [Option.some.injEq, Prod.mk.injEq] at hr; obtain ⟨rfl, rfl⟩ := hr; exact hq tm' w' h2
          | ret => simp only [Option.some.injEq, Prod.mk.injEq] at hr; obtain ⟨rfl, rfl⟩ := hr; exact hq tm' w' h2
        · cases hr
      | scope a =>
        simp only [run] at hr
        split at hr
        · next e1 σ1 h1 =>
          refine wp_scope_straight (IH a σ σ1 e1 tm w _ hc h1 h ?_)
          intro tm' w' h2
          cases e1 with
          | goto l => cases hr
          | normal => simp only [Option.some.injEq, Prod.mk.injEq] at hr; obtain ⟨rfl, rfl⟩ := hr; exact hq tm' w' h2
          | exit i => simp only [Option.some.injEq, Prod.mk.injEq] at hr; obtain ⟨rfl, rfl⟩ := hr; exact hq tm' w' h2
          | ret => simp only [Option.some.injEq, Prod.mk.injEq] at hr; obtain ⟨rfl, rfl⟩ := hr; exact hq tm' w' h2
        · cases hr
      | loop a =>
        refine wp_loop_ghost (fun k (act : Act) w => ∃ σ, k ≤ n + 1 ∧ run reg k (.loop a) σ = some (e, σ') ∧ act.defers = ds ∧ Rel w0 N σ act.tmps w) (n + 1) ⟨σ, Nat.le_refl _, hr, rfl, h⟩ ?_
        rintro k ⟨tm1, ds1⟩ w1 ⟨σ1, hk, hr1, hds, h1⟩
        simp only at hds h1
        subst hds
        cases k with
        | zero => simp [run] at hr1
        | succ k =>
          simp only [run] at hr1
          split at hr1
          · next e2 σ2 h2 =>
            refine ih k (by omega) a σ1 σ2 e2 tm1 w1 _ hc h2 h1 ?_
            intro tm' w' h3
            cases e2 with
            | normal => exact ⟨k, by omega, σ2, by omega, hr1, rfl, h3⟩
            | exit i => simp only [Option.some.injEq, Prod.mk.injEq] at hr1; obtain ⟨rfl, rfl⟩ := hr1; exact hq tm' w' h3
            | goto l => simp only [Option.some.injEq, Prod.mk.injEq] at hr1; obtain ⟨rfl, rfl⟩ := hr1; exact hq tm' w' h3
            | ret => simp only [Option.some.injEq, Prod.mk.injEq] at hr1; obtain ⟨rfl, rfl⟩ := hr1; exact hq tm' w' h3
          · cases hr1
      | rangeFunc f params assign body => simp [run] at hr
      | refuse why => simp [run] at hr

/-! ### what a function answers -/
/-- One result: its kind and its cells, taken out. -/
def resOne {α : Type} (P : Program) (σ : St α) (d : Pend α) : ResultVar → Option ((Kd × List (Cell α)) × Pend α)
  | .tmp t => if (σ.get t).okPart then match takeAll σ t d 0 (σ.get t).cs with
    | some (l, d') => some (((σ.get t).k, l), d')
    | none => none else none
  | .cell a ty => match adOf σ (.tmp a) with
    | some (.own r p off) => match rowAtP σ r p with
      | some row => if off + P.cellsOf ty ≤ row.length ∧ ((isAggB P ty = true ∧ 0 < P.cellsOf ty) ∨ (isAggB P ty = false ∧ P.cellsOf ty = 1 ∧ (P.underlying ty).isSome)) then match seen r p off ((row.drop off).take (P.cellsOf ty)) with
        | some ls => match takeAll σ 0 d 0 ls with
          | some (l, d') => some ((if isAggB P ty then .agg else .one, l), d')
          | none => none
        | none => none else none
      | none => none
    | _ => none
def resAll {α : Type} (P : Program) (σ : St α) : Pend α → List ResultVar → Option (List (Kd × List (Cell α)) × Pend α)
  | d, [] => some ([], d)
  | d, r :: l => match resOne P σ d r with
    | some (x, d') => match resAll P σ d' l with
      | some (xs, d'') => some (x :: xs, d'')
      | none => none
    | none => none
def kdOpt (x : Kd × Nat) : Option Nat := match x.1 with
  | .agg => some x.2
  | _ => none
/-- The results as one value. -/
def resSV {α : Type} : List (Kd × List (Cell α)) → SV α
  | [(k, l)] => ⟨k, l.map .c⟩
  | xs => ⟨.tup (xs.map fun x => kdOpt (x.1, x.2.length)), (xs.flatMap (·.2)).map .c⟩

def argsSt {α : Type} : Nat → List (SV α) → St α
  | _, [] => []
  | i, v :: l => (i, v) :: argsSt (i + 1) l

/-- A function's answer, by the trees. -/
def funRun (P : Program) (reg : FuncId → Nat → Reg) (n : Nat) (f : FuncId) (as : List (SV Unit)) : Option (SV Unit) := match P.funcs[f]? with
  | some fn => match fn.body with
    | some c => if (as.length ≤ fn.ntmps ∧ fn.ntmps < zeroN) ∧ (fn.name == "runtime.NumGoroutine") = false then match run (reg f fn.ntmps) n c (argsSt 0 as) with
      | some (e, σ) => if e = .normal ∨ e = .ret then match resAll P σ pend0 fn.results.toList with
        | some (xs, _) => some (resSV xs)
        | none => none else none
      | none => none else none
    | none => none
  | none => none
end Go.Proofs.Ytnmocjhpbobahaa.L
namespace Go.Proofs.Ytnmocjhpbobahaa.L
open Go Go.RowKit

section
variable {α : Type}
def eraseRes (x : (Kd × List (Cell α)) × Pend α) : (Kd × List (Cell Unit)) × Pend Unit := ((x.1.1, x.1.2.map Cell.erase), x.2.erase)
theorem resOne_erase (P : Program) (σ : St α) (d : Pend α) (r : ResultVar) : resOne P σ.erase d.erase r = (resOne P σ d r).map eraseRes := by
  cases r with
  | tmp t =>
    simp only [resOne, get_erase, okPart_erase]
    split
    · simp only [SV.erase]
      rw [takeAll_erase]
      cases takeAll σ t d 0 (σ.get t).cs with
      | none => rfl
      | some z => rfl
    · rfl
  | cell a ty =>
    simp only [resOne]
    rw [adOf_erase]
    cases adOf σ (.tmp a) with
    | none => rfl
    | some ad => cases ad with
      | frz g row off => rfl
      | own r p off =>
        simp only [Option.map_some, Ad.erase]
        rw [rowAtP_erase]
        cases rowAtP σ r p with
        | none => rfl
        | some row =>
          simp only [Option.map_some, List.length_map]
          split
          · rw [← List.map_drop, ← List.map_take, seen_erase]
            cases seen r p off ((row.drop off).take (P.cellsOf ty)) with
            | none => rfl
            | some ls =>
              simp only [Option.map_some]
              rw [takeAll_erase]
              cases takeAll σ 0 d 0 ls with
              | none => rfl
              | some z => rfl
          · rfl
theorem resAll_erase (P : Program) (σ : St α) : ∀ (l : List ResultVar) (d : Pend α), resAll P σ.erase d.erase l = (resAll P σ d l).map (fun z => (z.1.map (fun x => (x.1, x.2.map Cell.erase)), z.2.erase))
  | [], d => rfl
  | r :: l, d => by
    simp only [resAll]
    rw [resOne_erase]
    cases resOne P σ d r with
    | none => rfl
    | some z =>
      obtain ⟨x, d'⟩ := z
      simp only [Option.map_some, eraseRes]
      rw [resAll_erase P σ l d']
      cases resAll P σ d' l with
      | none => rfl
      | some z2 => rfl
end

def rvSem (tm : Array Value) : ResultVar → Sem Value
  | .tmp t => pure (tm.getD t undef)
  | .cell a t => do loadVar t (← asAddr (tm.getD a undef))

theorem run_load_pack {P : Program} {w : World} {ty : TypeId} {a : Addr} {l : List Value} (hl : l.length = P.cellsOf ty) (hc : ∀ j v, l[j]? = some v → w.cell? (a.add j) = some v)
    (hk : (isAggB P ty = true ∧ 0 < P.cellsOf ty) ∨ (isAggB P ty = false ∧ P.cellsOf ty = 1 ∧ (P.underlying ty).isSome)) : (loadVar ty a).run P w = .ok (pack (if isAggB P ty then .agg else .one) l) w := by
  rcases hk with ⟨hb, _⟩ | ⟨hb, h1, h2⟩
  · have hu : ∃ d, P.underlying ty = some d := by
      unfold isAggB at hb
      cases hd : P.underlying ty with
      | none => rw [hd] at hb; simp at hb
      | some d => exact ⟨d, rfl⟩
    obtain ⟨d, hu⟩ := hu
    obtain ⟨i, hi, _⟩ := info_of_underlying hu
    have hr1 := run_isAgg hu w
    have hr2 := run_sizeOf hi w
    have hr3 := run_loadCells_list (P := P) w a l hc
    rw [hl] at hr3
    simp [loadVar, hr1, hb, hr2, hr3, pack]
  · obtain ⟨d, hu⟩ := Option.isSome_iff_exists.1 h2
    rw [h1] at hl
    cases l with
    | nil => simp at hl
    | cons v l => cases l with
      | cons u l => simp at hl
      | nil =>
        have hv := hc 0 v rfl
        rw [add_zero] at hv
        have hr1 := run_isAgg hu w
        simp [loadVar, hr1, hb, hv, pack]

theorem resOne_ok {w0 : W0} {w : World} {Γ : St Gh} {tm : Array Value} {P : Program} {d d' : Pend Gh} {pool : List GC} {rv : ResultVar} {k : Kd} {l : List GC} (h0 : Inv w0 Γ [] tm w) (h : Inv w0 (Γ.pend d) pool tm w) (hb : Back Γ (Γ.pend d))
    (hr : resOne P Γ d rv = some ((k, l), d')) : Inv w0 (Γ.pend d') (l ++ pool) tm w ∧ Back Γ (Γ.pend d') ∧ (rvSem tm rv).run P w = .ok (pack k (l.map Cell.val)) w ∧ (∀ c ∈ l, c.isDead = false) ∧ (k = .one ∧ l.length = 1 ∨ k = .agg) := by
  cases rv with
  | tmp t =>
    simp only [resOne] at hr
    split at hr
    · next hok =>
      split at hr
      · next l' d1 hl =>
        simp only [Option.some.injEq, Prod.mk.injEq] at hr
        obtain ⟨⟨rfl, rfl⟩, rfl⟩ := hr
        obtain ⟨us, u1, u2⟩ := h0.rel t
        obtain ⟨a1, a2, a3, a4⟩ := takeAll_ok (Γ.get t).cs us pool d d1 0 l' h hb (fun k c hk _ => by simpa using hk) u1 (h0.hold t) hl
        refine ⟨a1, a2, ?_, a4, ?_⟩
        · show Result.ok (tm.getD t undef) w = _
          rw [u2, a3]
        · simp only [SV.okPart, Bool.and_eq_true, Bool.or_eq_true, bne_iff_ne, ne_eq, beq_iff_eq] at hok
          have hlen : l'.length = (Γ.get t).cs.length := by rw [← rels_length u1, a3]; simp
          cases hk : (Γ.get t).k with
          | one =>
            rcases hok.1.2 with q | q
            · exact absurd hk q
            · exact .inl ⟨rfl, by rw [hlen]; exact q⟩
          | agg => exact .inr rfl
          | tup ks => rw [hk] at hok; simp [Kd.flat] at hok
      · cases hr
    · cases hr
  | cell a ty =>
    simp only [resOne] at hr
    split at hr
    · next r p off had =>
      obtain ⟨y, ad, hy, ho, ha, hv⟩ := adOf_ok h0 had
      have hyh := h0.cell hy
      have hspot := own_addr hyh ho ha
      split at hr
      · next row hrow =>
        have hrow' : row = y.row := by
          unfold rowAtP at hrow
          rw [hy] at hrow
          simp only [ho, if_true, Option.some.injEq] at hrow
          exact hrow.symm
        subst hrow'
        split at hr
        · next hc =>
          obtain ⟨hlen, hkind⟩ := hc
          split at hr
          · next ls hls =>
            split at hr
            · next l' d1 hl =>
              simp only [Option.some.injEq, Prod.mk.injEq] at hr
              obtain ⟨⟨rfl, rfl⟩, rfl⟩ := hr
              have hsub : ∀ k x, ((y.row.drop off).take (P.cellsOf ty))[k]? = some x → y.row[off + k]? = some x := by
                intro k x hx
                rw [List.getElem?_take] at hx
                split at hx
                · rw [List.getElem?_drop] at hx; exact hx
                · cases hx
              obtain ⟨b1, b2, b3, b4⟩ := seen_ok hy ho hyh _ off ls hsub hls
              have hnoown : ∀ k c, ls[k]? = some (.c c) → c.isOwn = true → (Γ.get 0).cs[0 + k]? = some (.c c) := by
                intro k c hk hco
                exfalso
                have key : ∀ (l : List GC) (off : Nat) (ls : List (SC Gh)), seen r p off l = some ls → ∀ c, SC.c c ∈ ls → c.isOwn = false := by
                  intro l
                  induction l with
                  | nil => intro off ls h c hc; simp only [seen, Option.some.injEq] at h; subst h; simp at hc
                  | cons x l ih =>
                    intro off ls h c hc
                    simp only [seen] at h
                    split at h
                    · next y0 ys h1 h2 =>
                      simp only [Option.some.injEq] at h
                      subst h
                      rcases List.mem_cons.1 hc with hc | hc
                      · subst hc
                        split at h1
                        · cases h1
                        · split at h1
                          · next hcp =>
                            simp only [Option.some.injEq, SC.c.injEq] at h1
                            subst h1
                            cases x <;> simp_all [Cell.copyable, Cell.isOwn]
                          · cases h1
                      · exact ih (off + 1) ys h2 c hc
                    · cases h
                rw [key _ _ _ hls c (List.mem_of_getElem? hk)] at hco; cases hco
              obtain ⟨a1, a2, a3, a4⟩ := takeAll_ok ls _ pool d d1 0 l' h hb hnoown b1 b2 hl
              have hll : l'.length = P.cellsOf ty := by
                have := congrArg List.length a3
                simp at this
                omega
              have hcells : ∀ j u, (((y.row.drop off).take (P.cellsOf ty)).map Cell.val)[j]? = some u → w.cell? ((ad.add off).add j) = some u := by
                intro j u hu
                rw [List.getElem?_map] at hu
                cases hx : ((y.row.drop off).take (P.cellsOf ty))[j]? with
                | none => rw [hx] at hu; cases hu
                | some z =>
                  rw [hx] at hu
                  simp only [Option.map_some, Option.some.injEq] at hu
                  subst hu
                  obtain ⟨a', ha', _, u, hu1, hu2⟩ := base_cell hyh (hsub j z hx)
                  rw [ha] at ha'; cases ha'
                  rw [add_add hspot]
                  rcases hu2 with hu2 | hu2
                  · rw [b4 z (List.mem_of_getElem? hx)] at hu2; cases hu2
                  · rw [← hu2]; exact hu1
              have hload := run_load_pack (P := P) (w := w) (ty := ty) (a := ad.add off) (l := l'.map Cell.val) (by simpa using hll) (by rw [← a3]; exact hcells) hkind
              refine ⟨a1, a2, ?_, a4, ?_⟩
              · show ((asAddr (tm.getD a undef)) >>= fun x => loadVar ty x).run P w = _
                rw [show tm.getD a undef = _ from hv]
                exact hload
              · rcases hkind with ⟨z1, _⟩ | ⟨z1, z2, z3⟩
                · exact .inr (if_pos z1)
                · exact .inl ⟨if_neg (by rw [z1]; simp), by rw [hll]; exact z2⟩
            · cases hr
          · cases hr
        · cases hr
      · cases hr
    · cases hr

theorem resAll_ok {w0 : W0} {w : World} {Γ : St Gh} {tm : Array Value} {P : Program} (h0 : Inv w0 Γ [] tm w) : ∀ (rvs : List ResultVar) (d d' : Pend Gh) (pool : List GC) (xs : List (Kd × List GC)),
    Inv w0 (Γ.pend d) pool tm w → Back Γ (Γ.pend d) → resAll P Γ d rvs = some (xs, d') →
    Inv w0 (Γ.pend d') ((xs.flatMap (·.2)) ++ pool) tm w ∧ (rvs.mapM (rvSem tm)).run P w = .ok (xs.map fun x => pack x.1 (x.2.map Cell.val)) w ∧ (∀ x ∈ xs, (∀ c ∈ x.2, c.isDead = false) ∧ (x.1 = .one ∧ x.2.length = 1 ∨ x.1 = .agg))
  | [], d, d', pool, xs, h, hb, hr => by
    simp only [resAll, Option.some.injEq, Prod.mk.injEq] at hr
    obtain ⟨rfl, rfl⟩ := hr
    exact ⟨h, rfl, by simp⟩
  | rv :: rvs, d, d', pool, xs, h, hb, hr => by
    simp only [resAll] at hr
    split at hr
    · next x d1 h1 =>
      obtain ⟨k, l⟩ := x
      split at hr
      · next ys d2 h2 =>
        simp only [Option.some.injEq, Prod.mk.injEq] at hr
        obtain ⟨rfl, rfl⟩ := hr
        obtain ⟨a1, a2, a3, a4, a5⟩ := resOne_ok h0 h hb h1
        obtain ⟨b1, b2, b3⟩ := resAll_ok h0 rvs d1 d2 (l ++ pool) ys a1 a2 h2
        refine ⟨?_, ?_, ?_⟩
        · refine b1.permL ?_
          simp only [List.flatMap_cons, List.append_assoc]
          exact (List.perm_append_comm_assoc l (ys.flatMap (·.2)) pool)
        · simp [List.mapM_cons, a3, b2]
        · intro z hz
          rcases List.mem_cons.1 hz with rfl | hz
          · exact ⟨a4, a5⟩
          · exact b3 z hz
      · cases hr
    · cases hr

def oneOr : List Value → Value
  | [v] => v
  | vs => .tuple vs.toArray
theorem results_eq (fn : Func) (tm : Array Value) (w : World) (P : Program) {vs : List Value} (h : (fn.results.toList.mapM (rvSem tm)).run P w = .ok vs w) : (results fn tm).run P w = .ok (oneOr vs) w := by
  have he : results fn tm = (do let vs ← List.toArray <$> fn.results.toList.mapM (rvSem tm); pure (if h : vs.size = 1 then vs[0] else .tuple vs)) := by
    rw [← Array.mapM_eq_mapM_toList]; rfl
  rw [he]
  have h2 : ∀ (x : Sem (List Value)) , x.run P w = .ok vs w → (do let vs ← List.toArray <$> x; pure (if h : vs.size = 1 then vs[0] else .tuple vs) : Sem Value).run P w = .ok (if h : vs.toArray.size = 1 then vs.toArray[0] else .tuple vs.toArray) w := by
    intro x hx
    simp [hx]
  rw [h2 _ h]
  congr 1
  cases vs with
  | nil => rfl
  | cons v vs => cases vs with
    | nil => rfl
    | cons u vs => simp [oneOr]
theorem packL_all : ∀ (xs : List (Kd × List GC)), (∀ x ∈ xs, x.1 = .one ∧ x.2.length = 1 ∨ x.1 = .agg) →
    packL (xs.map fun x => kdOpt (x.1, x.2.length)) ((xs.flatMap (·.2)).map Cell.val) = xs.map fun x => pack x.1 (x.2.map Cell.val)
  | [], _ => rfl
  | (k, l) :: xs, h => by
    have ih := packL_all xs fun x hx => h x (by simp [hx])
    rcases h (k, l) (by simp) with ⟨rfl, hl⟩ | hk
    · cases l with
      | nil => simp at hl
      | cons c l => cases l with
        | cons c' l => simp at hl
        | nil =>
          show Cell.val c :: packL (xs.map fun x => kdOpt (x.1, x.2.length)) ((xs.flatMap (·.2)).map Cell.val) = _
          rw [ih]; rfl
    · simp only at hk
      subst hk
      rw [List.flatMap_cons, List.map_append]
      show Value.agg (List.take l.length (l.map Cell.val ++ (xs.flatMap (·.2)).map Cell.val)).toArray :: packL (xs.map fun x => kdOpt (x.1, x.2.length)) (List.drop l.length (l.map Cell.val ++ (xs.flatMap (·.2)).map Cell.val)) = _
      rw [List.take_left' (by simp), List.drop_left' (by simp), ih]; rfl
theorem resSV_map {xs : List (Kd × List GC)} : ∃ k, resSV (xs.map fun x => (x.1, x.2.map Cell.erase)) = bare k (xs.flatMap (·.2)) ∧ ((∀ x ∈ xs, x.1 = .one ∧ x.2.length = 1 ∨ x.1 = .agg) → pack k ((xs.flatMap (·.2)).map Cell.val) = oneOr (xs.map fun x => pack x.1 (x.2.map Cell.val))) := by
  have gen : ∀ xs : List (Kd × List GC), xs.length ≠ 1 → resSV (xs.map fun x => (x.1, x.2.map Cell.erase)) = bare (.tup (xs.map fun x => kdOpt (x.1, x.2.length))) (xs.flatMap (·.2)) := by
    intro xs hx
    have hflat : (List.flatMap (·.2) (xs.map fun x => (x.1, x.2.map Cell.erase))) = (xs.flatMap (·.2)).map Cell.erase := by
      simp [List.flatMap_map, List.map_flatMap]
    cases xs with
    | nil => rfl
    | cons x xs => cases xs with
      | nil => simp at hx
      | cons y xs =>
        simp only [List.map_cons, resSV, bare]
        simp [List.flatMap_map, List.map_flatMap, List.map_map, Function.comp_def]
  cases xs with
  | nil => exact ⟨.tup [], rfl, fun _ => rfl⟩
  | cons x xs => cases xs with
    | nil => exact ⟨x.1, by simp [resSV, bare], fun _ => by simp [oneOr]⟩
    | cons y xs =>
      refine ⟨_, gen _ (by simp), fun h => ?_⟩
      simp only [pack]
      rw [packL_all _ h]
      rfl
theorem get_argsSt {α : Type} : ∀ (l : List (SV α)) (i t : Nat), (argsSt i l).get t = if i ≤ t then (l[t - i]?).getD SV.dead else SV.dead
  | [], i, t => by simp [argsSt, get_nil]
  | v :: l, i, t => by
    simp only [argsSt]
    by_cases ht : t = i
    · subst ht; simp [St.get, List.lookup]
    · have hb : (t == i) = false := by simpa using ht
      have ih := get_argsSt l (i + 1) t
      simp only [St.get, List.lookup, hb] at ih ⊢
      rw [ih]
      by_cases h : i ≤ t
      · have h1 : i + 1 ≤ t := by omega
        rw [if_pos h1, if_pos h]
        obtain ⟨m, rfl⟩ := Nat.exists_eq_add_of_le h1
        rw [show i + 1 + m - i = m + 1 by omega, show i + 1 + m - (i + 1) = m by omega]
        simp
      · rw [if_neg h, if_neg (by omega)]
theorem argsSt_erase {α : Type} : ∀ (l : List (SV α)) (i : Nat), (argsSt i l).erase = argsSt i (l.map SV.erase)
  | [], i => rfl
  | v :: l, i => by
    have := argsSt_erase l (i + 1)
    simp only [argsSt, List.map_cons, St.erase] at this ⊢
    rw [this]
theorem args_inv {w : World} (S : List Nat) (a : Value) (gs : List (Kd × List GC)) (n : Nat) (hg : ∀ g ∈ gs, holdsL w ⟨w.heap.size, S⟩ g.2) (hf : ∀ i g, gs[i]? = some g → i ≠ 0 → footL g.2 = []) (hn : ∀ g, gs[0]? = some g → (footL g.2).Nodup) :
    Inv ⟨w, S, a⟩ (argsSt 0 (gs.map fun g => (⟨g.1, g.2.map .c⟩ : SV Gh))) [] ((gs.map fun g => pack g.1 (g.2.map Cell.val)).toArray ++ Array.replicate n undef) w := by
  have hget : ∀ s, (argsSt 0 (gs.map fun g => (⟨g.1, g.2.map .c⟩ : SV Gh))).get s = match gs[s]? with | some g => ⟨g.1, g.2.map .c⟩ | none => SV.dead := by
    intro s
    rw [get_argsSt]
    simp only [Nat.zero_le, if_true, Nat.sub_zero, List.getElem?_map]
    cases gs[s]? <;> rfl
  have hfv : ∀ g : Kd × List GC, footV (⟨g.1, g.2.map .c⟩ : SV Gh) = footL g.2 := by
    intro g
    simp only [footV, List.map_map]
    rw [show (SC.cell ∘ SC.c : GC → GC) = id from rfl, List.map_id]
  have hfoot : ∀ s, s ≠ 0 → footV ((argsSt 0 (gs.map fun g => (⟨g.1, g.2.map .c⟩ : SV Gh))).get s) = [] := by
    intro s hs0
    rw [hget]
    cases hs : gs[s]? with
    | none => simp [footV, SV.dead, SC.cell, footL, foot]
    | some g => rw [hfv]; exact hf s g hs hs0
  have hfn : ∀ s, (footV ((argsSt 0 (gs.map fun g => (⟨g.1, g.2.map .c⟩ : SV Gh))).get s)).Nodup := fun s => by
    by_cases hs0 : s = 0
    · subst hs0
      rw [hget]
      cases hs : gs[0]? with
      | none => simp [footV, SV.dead, SC.cell, footL, foot]
      | some g => rw [hfv]; exact hn g hs
    · rw [hfoot s hs0]; exact List.nodup_nil
  have hfd : ∀ s t b, b ∈ footV ((argsSt 0 (gs.map fun g => (⟨g.1, g.2.map .c⟩ : SV Gh))).get s) → b ∈ footV ((argsSt 0 (gs.map fun g => (⟨g.1, g.2.map .c⟩ : SV Gh))).get t) → s = t := fun s t b hb hb2 => by
    by_cases hs0 : s = 0
    · by_cases ht0 : t = 0
      · rw [hs0, ht0]
      · rw [hfoot t ht0] at hb2; cases hb2
    · rw [hfoot s hs0] at hb; cases hb
  refine ⟨Bel.refl _ _, ?_, ?_, trivial, hfn, hfd, List.nodup_nil, fun s b _ => by simp [footL]⟩
  · intro s
    rw [hget]
    cases hs : gs[s]? with
    | none => exact dead_rel _ _
    | some g =>
      refine ⟨g.2.map Cell.val, rels_cells _, ?_⟩
      have hlt : s < gs.length := (List.getElem?_eq_some_iff.1 hs).1
      rw [Array.getD_eq_getD_getElem?, Array.getElem?_append_left (by simpa using hlt)]
      simp [hs]
  · intro s x hx
    rw [hget] at hx
    cases hs : gs[s]? with
    | none => rw [hs] at hx; simp only [SV.dead, List.mem_singleton] at hx; subst hx; trivial
    | some g =>
      rw [hs] at hx
      simp only [List.mem_map] at hx
      obtain ⟨c, hc, rfl⟩ := hx
      exact holdsL_iff.1 (hg g (List.mem_of_getElem? hs)) c hc

/-- THE TREES' ANSWER IS THE FUNCTION's. -/
theorem good_of_run {P : Program} {reg : FuncId → Nat → Reg} {n : Nat} {f : FuncId} {as : List (SV Unit)} {r : SV Unit} {T : Nat → Array Oper → Bool → Bool} (hR : ∀ N, RegOk P N (reg f N) T) (hT : ∀ fn c, P.funcs[f]? = some fn → fn.body = some c → codeAll T c = true) (h : funRun P reg n f as = some r) : Good P f as r := by
  unfold funRun at h
  split at h
  · next fn hf =>
    split at h
    · next c hc =>
      split at h
      · next hlen =>
        split at h
        · next e σ hrun =>
          split at h
          · next he =>
            split at h
            · next xs d hxs =>
              simp only [Option.some.injEq] at h
              subst h
              refine ⟨⟨fn, hf, by rw [hc]; rfl, hlen.2⟩, ?_⟩
              intro w gs hgs hg
              refine calls_of_wp hf hc ?_
              have hsz : gs.length ≤ fn.ntmps := by have := hlen.1.1; rw [← hgs] at this; simpa using this
              have hrel : Rel ⟨w, [], undef⟩ fn.ntmps (argsSt 0 as) ((gs.map fun g => pack g.1 (g.2.map Cell.val)).toArray ++ Array.replicate (fn.ntmps - (gs.map fun g => pack g.1 (g.2.map Cell.val)).toArray.size) undef) w := by
                refine ⟨_, ?_, args_inv [] undef gs _ (fun g h => (hg g h).1) (fun i g h _ => (hg g (List.mem_of_getElem? h)).2.1) (fun g h => by rw [(hg g (List.mem_of_getElem? h)).2.1]; exact List.nodup_nil), ?_⟩
                · rw [argsSt_erase, ← hgs]
                  congr 1
                  rw [List.map_map]
                  refine List.map_congr_left fun g _ => ?_
                  simp [SV.erase, bare, SC.erase]
                · refine ⟨?_, fun hz => absurd hlen.1.2 hz⟩
                  unfold tmN
                  rw [if_pos hlen.1.2]
                  simp; omega
              refine run_ok (hR fn.ntmps) n c _ σ e _ w _ (hT fn c hf hc) hrun hrel ?_
              intro tm' w' ⟨Γ, hΓ, hI, _⟩
              have hres := resAll_erase P Γ fn.results.toList pend0
              rw [hΓ, pend0_erase, hxs] at hres
              cases hx : resAll P Γ pend0 fn.results.toList with
              | none => rw [hx] at hres; cases hres
              | some z =>
                obtain ⟨ys, d'⟩ := z
                rw [hx] at hres
                simp only [Option.map_some, Option.some.injEq, Prod.mk.injEq] at hres
                obtain ⟨rfl, _⟩ := hres
                obtain ⟨b1, b2, b3⟩ := resAll_ok hI fn.results.toList pend0 d' [] ys (pend0_inv hI) (pend0_back Γ) hx
                obtain ⟨k, hk1, hk2⟩ := @resSV_map ys
                have hval := results_eq fn tm' w' P b2
                rw [← hk2 fun x hx => (b3 x hx).2] at hval
                have hfin : (⟨tm', []⟩ : Act).defers = [] ∧ ∃ v, (results fn tm').run P w' = .ok v w' ∧ ∃ k cs, bare k cs = resSV (ys.map fun x => (x.1, x.2.map Cell.erase)) ∧ Ending.returned v = .returned (pack k (cs.map Cell.val)) ∧ Below w.heap.size w w' ∧ holdsL w' ⟨w.heap.size, []⟩ cs ∧ (footL cs).Nodup ∧ ∀ c ∈ cs, c.isDead = false := by
                  refine ⟨rfl, _, hval, k, ys.flatMap (·.2), hk1.symm, rfl, Bel.below b1.below, ?_, ?_, ?_⟩
                  · have := b1.pool; rw [List.append_nil] at this; exact this
                  · have := b1.nodP; rw [List.append_nil] at this; exact this
                  · intro c hc'
                    obtain ⟨x, hx1, hx2⟩ := List.mem_flatMap.1 hc'
                    exact (b3 x hx1).1 c hx2
                rcases he with rfl | rfl <;> exact hfin
            · cases h
          · cases h
        · cases h
      · cases h
    · cases h
  · cases h
end Go.Proofs.Ytnmocjhpbobahaa.L
