/- M9: what is underway: takings; what an operand's value is; laying the result. M10: operands; what reads neither memory nor the tape; moves, assignments, new variables. M11: what is made anew; what is read; addresses. M12: structs and slices that are built; what is read; addresses. M13: slices that are made; what is read; addresses; windows. M14: loads, addresses, windows, lengths. M15: windows, lengths, tuples, assignments. M16: assignments, stores, append, copy. M17: assignments (on). M18: stores, append, copy. M19: append, copy. M20: copy; calls; what each operation's run shows. MA: a tree that was lent to a call comes back. -/
import Derived.Test.YtnmocjhpbobahaaQ1
import Derived.Test.YtnmocjhpbobahaaQ2
import Derived.Laws.Append
import Derived.Laws.AppendOwn
import Derived.Laws.MakeOwn
import Derived.Laws.Tables
import Derived.Laws.CopyRow
set_option linter.unusedVariables false
set_option linter.unusedSimpArgs false
set_option linter.unnecessarySimpa false
namespace Go.Proofs.Ytnmocjhpbobahaa.L
open Go Go.RowKit

theorem kill_mem {α : Type} {ks ls : List (Nat × List Nat)} (h : ∀ k, k ∈ ks ↔ k ∈ ls) (v : SV α) : v.kill ks = v.kill ls := by
  simp only [SV.kill, SV.mk.injEq, true_and]
  apply List.map_congr_left
  intro x _
  unfold SC.kill
  have : (ks.any fun k => x.dies k.1 k.2) = (ls.any fun k => x.dies k.1 k.2) := by
    rw [Bool.eq_iff_iff]
    simp only [List.any_eq_true]
    exact ⟨fun ⟨k, h1, h2⟩ => ⟨k, (h k).1 h1, h2⟩, fun ⟨k, h1, h2⟩ => ⟨k, (h k).2 h1, h2⟩⟩
  rw [this]
theorem putAll_append {α : Type} (σ : St α) (l m : List (Nat × SV α)) : putAll σ (l ++ m) = putAll (putAll σ l) m := by
  induction l generalizing σ with
  | nil => rfl
  | cons x l ih => obtain ⟨s, v⟩ := x; simp only [List.cons_append, putAll]; exact ih _
theorem ovGet_putAll {α : Type} (σ : St α) (ch : List (Nat × SV α)) (r : Nat) : ovGet σ ch r = (putAll σ ch.reverse).get r := by
  induction ch with
  | nil => rfl
  | cons x l ih =>
    obtain ⟨k, u⟩ := x
    rw [List.reverse_cons, putAll_append]
    simp only [putAll]
    rw [get_put]
    unfold ovGet
    simp only [List.lookup]
    by_cases h : r = k
    · subst h; simp
    · have : (r == k) = false := by simpa using h
      rw [this, if_neg h]
      exact ih

/-- The state with what is underway. -/
def St.pend {α : Type} (σ : St α) (d : Pend α) : St α := (putAll σ d.ch.reverse).kill d.kill
theorem pend_get {α : Type} (σ : St α) (d : Pend α) (s : Nat) : (σ.pend d).get s = (ovGet σ d.ch s).kill d.kill := by
  unfold St.pend; rw [get_kill, ovGet_putAll]
theorem pend0_get {α : Type} (σ : St α) (s : Nat) : (σ.pend pend0).get s = σ.get s := by
  rw [pend_get]; exact kill_nil_SV _

theorem Inv.permL {w0 : W0} {w : World} {Γ : St Gh} {xs ys : List GC} {tm : Array Value} (h : Inv w0 Γ xs tm w) (hp : ys.Perm xs) : Inv w0 Γ ys tm w := by
  refine h.perm ?_ ?_
  · have key : ∀ {a b : List GC}, a.Perm b → (footL a).Perm (footL b) := by
      intro a b hab
      induction hab with
      | nil => exact List.Perm.refl _
      | cons x _ ih => exact List.Perm.append_left _ ih
      | swap x y l =>
        simp only [footL]
        rw [← List.append_assoc, ← List.append_assoc]
        exact List.Perm.append_right _ List.perm_append_comm
      | trans _ _ h1 h2 => exact h1.trans h2
    exact key hp
  · have := h.pool
    rw [holdsL_iff] at this ⊢
    exact fun c hc => this c (hp.mem_iff.1 hc)

/-- Whatever is owned now at a place was there, under the same head. -/
def Back (Γ Γ' : St Gh) : Prop := ∀ r q z', (Γ'.get r).getP q = some z' → z'.isOwn = true → ∃ z, (Γ.get r).getP q = some z ∧ z.head = z'.head
theorem Back.refl (Γ : St Gh) : Back Γ Γ := fun _ _ z' h _ => ⟨z', h, rfl⟩
theorem Back.trans {a b c : St Gh} (h : Back a b) (k : Back b c) : Back a c := by
  intro r q z' h1 h2
  obtain ⟨z, h3, h4⟩ := k r q z' h1 h2
  obtain ⟨z0, h5, h6⟩ := h r q z h3 (head_own h4.symm h2)
  exact ⟨z0, h5, h6.trans h4⟩
theorem getC_setC_back : ∀ (p q : List Nat) (c z' : GC), (c.setC p .dead).getC q = some z' → z'.isOwn = true → ∃ z, c.getC q = some z ∧ z.head = z'.head
  | [], q, c, z', h, ho => by
    simp only [Cell.setC] at h
    cases q with
    | nil => simp only [Cell.getC, Option.some.injEq] at h; subst h; simp [Cell.isOwn] at ho
    | cons j q => obtain ⟨h1, _⟩ := getC_cons h; simp [Cell.isOwn] at h1
  | j :: p, q, c, z', h, ho => by
    simp only [Cell.setC] at h
    split at h
    · next d hd =>
      have hj : j < c.row.length := (List.getElem?_eq_some_iff.1 hd).1
      cases q with
      | nil =>
        simp only [Cell.getC, Option.some.injEq] at h
        subst h
        exact ⟨c, rfl, (withRow_head (by simp)).symm⟩
      | cons i q =>
        obtain ⟨h1, e, he, hz⟩ := getC_cons h
        rw [withRow_own] at h1
        rw [withRow_row h1, List.getElem?_set] at he
        split at he
        · next hij =>
          subst hij
          simp only [hj, if_true, Option.some.injEq] at he
          subst he
          obtain ⟨z, hz1, hz2⟩ := getC_setC_back p q d z' hz ho
          exact ⟨z, by rw [getC_cons_eq h1 hd]; exact hz1, hz2⟩
        · exact ⟨z', by rw [getC_cons_eq h1 he]; exact hz, rfl⟩
    · exact ⟨z', h, rfl⟩
theorem getP_setP_back {v : SV Gh} {p q : List Nat} {z' : GC} (h : (v.setP p .dead).getP q = some z') (ho : z'.isOwn = true) : ∃ z, v.getP q = some z ∧ z.head = z'.head := by
  cases p with
  | nil => exact ⟨z', h, rfl⟩
  | cons j p =>
    simp only [SV.setP] at h
    split at h
    · next x hx =>
      have hj : j < v.cs.length := (List.getElem?_eq_some_iff.1 hx).1
      cases q with
      | nil => simp [SV.getP] at h
      | cons i q =>
        obtain ⟨y, hy, hz⟩ := getP_cell h
        rw [List.getElem?_set] at hy
        split at hy
        · next hij =>
          subst hij
          simp only [hj, if_true, Option.some.injEq, SC.c.injEq] at hy
          subst hy
          obtain ⟨z, h1, h2⟩ := getC_setC_back p q x z' hz ho
          exact ⟨z, by simp [SV.getP, hx, h1], h2⟩
        · exact ⟨z', by simp [SV.getP, hy, hz], rfl⟩
    · exact ⟨z', h, rfl⟩

theorem take_ok {w0 : W0} {w : World} {Γ : St Gh} {pool : List GC} {tm : Array Value} {d d' : Pend Gh} {r : Nat} {p : List Nat} {y : GC}
    (h : Inv w0 (Γ.pend d) pool tm w) (ht : takeAt Γ d r p = some (y, d')) :
    Inv w0 (Γ.pend d') (y :: pool) tm w ∧ Back (Γ.pend d) (Γ.pend d') ∧ ((Γ.pend d).get r).getP p = some y ∧ y.isOwn = true ∧ d' = ⟨(r, (ovGet Γ d.ch r).setP p .dead) :: d.ch, (r, p) :: d.kill⟩ := by
  unfold takeAt at ht
  split at ht
  · next z hz =>
    split at ht
    · next ho =>
      simp only [Option.some.injEq, Prod.mk.injEq] at ht
      obtain ⟨rfl, rfl⟩ := ht
      have hg : ((Γ.pend d).get r).getP p = some z := by rw [pend_get, getP_kill]; exact hz
      have h1 := (h.kill [(r, p)]).take (kill_clear _ _ r p (by simp)) (y := z) (by rw [get_kill, getP_kill]; exact hg)
      have he : ∀ s, (Γ.pend ⟨(r, (ovGet Γ d.ch r).setP p .dead) :: d.ch, (r, p) :: d.kill⟩).get s =
          (((Γ.pend d).kill [(r, p)]).put r ((((Γ.pend d).kill [(r, p)]).get r).setP p .dead)).get s := by
        intro s
        rw [pend_get, get_put]
        have e1 : ∀ v : SV Gh, (v.kill d.kill).kill [(r, p)] = v.kill ((r, p) :: d.kill) := by
          intro v; rw [kill_kill]; exact kill_mem (by simp [or_comm]) v
        unfold ovGet
        simp only [List.lookup]
        by_cases hs : s = r
        · subst hs
          simp only [beq_self_eq_true, if_true]
          rw [get_kill, pend_get, e1, setP_kill]; rfl
        · have : (s == r) = false := by simpa using hs
          rw [this, if_neg hs, get_kill, pend_get, e1]; rfl
      refine ⟨h1.congr he, ?_, hg, ho, rfl⟩
      intro r' q z' h2 h3
      rw [he, get_put] at h2
      split at h2
      · next e =>
        subst e
        obtain ⟨z0, h4, h5⟩ := getP_setP_back h2 h3
        rw [get_kill, getP_kill] at h4
        exact ⟨z0, h4, h5⟩
      · rw [get_kill, getP_kill] at h2
        exact ⟨z', h2, rfl⟩
    · cases ht
  · cases ht

theorem Inv.cell {w0 : W0} {w : World} {Γ : St Gh} {xs : List GC} {tm : Array Value} (h : Inv w0 Γ xs tm w) {r : Nat} {p : List Nat} {y : GC} (hy : (Γ.get r).getP p = some y) : holds w w0.zn y := by
  cases p with
  | nil => simp [SV.getP] at hy
  | cons j q =>
    obtain ⟨z, hz, hzy⟩ := getP_cell hy
    exact getC_holds q z y hzy (h.hold r (.c z) (List.mem_of_getElem? hz))

theorem copyable_dead {α : Type} {y : Cell α} (h : y.copyable = true) : y.isDead = false := by cases y <;> simp_all [Cell.copyable, Cell.isDead]
theorem takeSC_ok {w0 : W0} {w : World} {Γ : St Gh} {pool : List GC} {tm : Array Value} {d d' : Pend Gh} {s i : Nat} {x : SC Gh} {y : GC} {u : Value}
    (h : Inv w0 (Γ.pend d) pool tm w) (hb : Back Γ (Γ.pend d)) (hx : ∀ c, x = .c c → c.isOwn = true → (Γ.get s).cs[i]? = some x) (hu : scRel Γ x u) (hh : scHolds w w0.zn x)
    (ht : takeSC Γ d s i x = some (y, d')) :
    Inv w0 (Γ.pend d') (y :: pool) tm w ∧ Back Γ (Γ.pend d') ∧ u = y.val ∧ y.isDead = false := by
  unfold takeSC at ht
  split at ht
  · next r p hp =>
    obtain ⟨h1, h2, h3, h4, _⟩ := take_ok h ht
    refine ⟨h1, hb.trans h2, ?_, isDead_own h4⟩
    obtain ⟨z, hz1, hz2⟩ := hb r p y h3 h4
    have hzo := head_own hz2.symm h4
    have hval : y.val = z.val := head_val hz2 hzo
    cases x with
    | c c =>
      simp only [SC.place] at hp
      split at hp
      · next ho =>
        simp only [Option.some.injEq, Prod.mk.injEq] at hp
        obtain ⟨rfl, rfl⟩ := hp
        have := hx c rfl ho
        simp only [SV.getP, this] at hz1
        simp only [Cell.getC, Option.some.injEq] at hz1
        subst hz1
        rcases hu with hu | hu
        · rw [isDead_own ho] at hu; cases hu
        · rw [hval]; exact hu
      · cases hp
    | view r' p' =>
      simp only [SC.place, Option.some.injEq, Prod.mk.injEq] at hp
      obtain ⟨rfl, rfl⟩ := hp
      obtain ⟨z2, e1, _, e3⟩ := hu
      rw [hz1] at e1
      cases e1
      rw [hval]; exact e3
    | _ => simp [SC.place] at hp
  · split at ht
    · next c hp =>
      split at ht
      · next hc =>
        simp only [Option.some.injEq, Prod.mk.injEq] at ht
        obtain ⟨rfl, rfl⟩ := ht
        refine ⟨holds_free h hh (foot_copyable hc hh), hb, ?_, copyable_dead hc⟩
        rcases hu with hu | hu
        · rw [copyable_dead hc] at hu; cases hu
        · exact hu
      · cases ht
    · cases ht

theorem takeAll_ok {w0 : W0} {w : World} {Γ : St Gh} {tm : Array Value} {s : Nat} : ∀ (l : List (SC Gh)) (us : List Value) (pool : List GC) (d d' : Pend Gh) (i : Nat) (ys : List GC),
    Inv w0 (Γ.pend d) pool tm w → Back Γ (Γ.pend d) → (∀ k c, l[k]? = some (.c c) → c.isOwn = true → (Γ.get s).cs[i + k]? = some (.c c)) → rels Γ l us → (∀ x ∈ l, scHolds w w0.zn x) →
    takeAll Γ s d i l = some (ys, d') →
    Inv w0 (Γ.pend d') (ys ++ pool) tm w ∧ Back Γ (Γ.pend d') ∧ us = ys.map Cell.val ∧ (∀ y ∈ ys, y.isDead = false)
  | [], us, pool, d, d', i, ys, h, hb, _, hu, _, ht => by
    simp only [takeAll, Option.some.injEq, Prod.mk.injEq] at ht
    obtain ⟨rfl, rfl⟩ := ht
    cases us with
    | nil => exact ⟨h, hb, rfl, by simp⟩
    | cons u us => simp [rels] at hu
  | x :: l, us, pool, d, d', i, ys, h, hb, hx, hu, hh, ht => by
    simp only [takeAll] at ht
    split at ht
    · next y d1 h1 =>
      split at ht
      · next ys2 d2 h2 =>
        simp only [Option.some.injEq, Prod.mk.injEq] at ht
        obtain ⟨rfl, rfl⟩ := ht
        cases us with
        | nil => simp [rels] at hu
        | cons u us =>
          obtain ⟨a1, a2, a3, a4⟩ := takeSC_ok h hb (fun c hc ho => by subst hc; exact hx 0 c rfl ho) hu.1 (hh x (by simp)) h1
          obtain ⟨b1, b2, b3, b4⟩ := takeAll_ok l us (y :: pool) d1 d2 (i + 1) ys2 a1 a2
            (fun k c hk ho => by have := hx (k + 1) c (by simpa using hk) ho; rwa [show i + 1 + k = i + (k + 1) by omega]) hu.2 (fun z hz => hh z (by simp [hz])) h2
          refine ⟨b1.permL ?_, b2, by rw [a3, b3]; rfl, ?_⟩
          · simp only [List.cons_append]
            exact (List.perm_middle).symm
          · intro z hz
            rcases List.mem_cons.1 hz with rfl | hz
            · exact a4
            · exact b4 z hz
      · cases ht
    · cases ht

theorem Inv.sub {w0 : W0} {w : World} {Γ : St Gh} {xs ys : List GC} {tm : Array Value} (h : Inv w0 Γ xs tm w) (hp : ∃ D, (footL ys ++ D).Perm (footL xs)) (hh : holdsL w w0.zn ys) : Inv w0 Γ ys tm w := by
  obtain ⟨D, hD⟩ := hp
  exact ⟨h.below, h.rel, h.hold, hh, h.nod, h.dis, (List.nodup_append.1 (hD.nodup_iff.2 h.nodP)).1, fun s b hb hm => h.disP s b hb (hD.mem_iff.1 (by simp [hm]))⟩
theorem sc_cell {w : World} {n0 : Zn} {x : SC Gh} (h : scHolds w n0 x) : holds w n0 x.cell := by
  cases x with
  | c y => exact h
  | cut r y ws => exact h.1
  | _ => trivial
/-- LAYING the result, and forgetting what died. -/
theorem done_putK {w0 : W0} {w : World} {Γ : St Gh} {ys : List GC} {tm : Array Value} {D : List (Nat × List Nat)} (h : Inv w0 (Γ.kill D) ys tm w) {t : Nat} {v : SV Gh} {u : Value}
    (ht : t < tm.size) (hv : svRel (Γ.kill D) (v.kill D) u) (hh : ∀ x ∈ v.cs, scHolds w w0.zn x) (hf : (footV v).Perm (footL ys)) :
    Inv w0 ((Γ.put t v).kill ((t, []) :: D)) [] (tm.setIfInBounds t u) w := by
  have h1 := h.kill [(t, [])]
  have e1 : ∀ v : SV Gh, (v.kill D).kill [(t, [])] = v.kill ((t, []) :: D) := by
    intro v; rw [kill_kill]; exact kill_mem (by simp [or_comm]) v
  have hroot : ∀ x ∈ (v.kill ((t, []) :: D)).cs, x.root ≠ some t := by
    intro x hx e
    simp only [SV.kill, List.mem_map] at hx
    obtain ⟨y, _, rfl⟩ := hx
    unfold SC.kill at e
    split at e
    · simp [SC.root] at e
    · next hn => exact hn (List.any_eq_true.2 ⟨(t, []), by simp, dies_root e⟩)
  have hhk : ∀ x ∈ (v.kill ((t, []) :: D)).cs, scHolds w w0.zn x := by
    intro x hx
    simp only [SV.kill, List.mem_map] at hx
    obtain ⟨y, hy, rfl⟩ := hx
    have := hh y hy
    rcases kill_eq ((t, []) :: D) y with e | e <;> rw [e]
    · exact this
    · trivial
  obtain ⟨Dx, hD⟩ := (footV_kill v ((t, []) :: D)).exists_perm_append
  have h1' := h1.sub (ys := (v.kill ((t, []) :: D)).cs.map SC.cell) ⟨Dx, hD.symm.trans hf⟩ (by
    rw [holdsL_iff]
    intro c hc
    obtain ⟨x, hx, rfl⟩ := List.mem_map.1 hc
    exact sc_cell (hhk x hx))
  have h2 := Inv.put (ys := (v.kill ((t, []) :: D)).cs.map SC.cell) (xs := []) (s := t) (v := v.kill ((t, []) :: D)) (u := u) (by simpa using h1') (kill_clear _ _ t [] (by simp)) ht hroot ?_ hhk (List.Perm.refl _)
  · refine h2.congr ?_
    intro s
    rw [get_kill, get_put, get_put]
    split
    · rfl
    · rw [get_kill, get_kill, e1]
  · rw [← e1]
    obtain ⟨vs, r1, r2⟩ := hv
    refine ⟨vs, rels_mono r1 (by simp [SV.kill]) ?_, r2⟩
    intro i x x' u hx hx' hr
    simp only [SV.kill, List.getElem?_map] at hx hx'
    cases hvi : v.cs[i]? with
    | none => rw [hvi] at hx; cases hx
    | some z =>
      rw [hvi] at hx hx'
      simp only [Option.map_some, Option.some.injEq] at hx hx'
      subst hx; subst hx'
      exact scRel_kill hr
theorem done_put {w0 : W0} {w : World} {Γ : St Gh} {ys : List GC} {tm : Array Value} {D : List (Nat × List Nat)} (h : Inv w0 (Γ.kill D) ys tm w) {t : Nat} {v : SV Gh} {u : Value}
    (ht : t < tm.size) (hv : svRel (Γ.kill D) v u) (hh : ∀ x ∈ v.cs, scHolds w w0.zn x) (hf : (footV v).Perm (footL ys)) :
    Inv w0 ((Γ.put t v).kill ((t, []) :: D)) [] (tm.setIfInBounds t u) w := by
  refine done_putK h ht ?_ hh hf
  obtain ⟨vs, r1, r2⟩ := hv
  refine ⟨vs, rels_mono r1 (by simp [SV.kill]) ?_, r2⟩
  intro i x x' u hx hx' hr
  simp only [SV.kill, List.getElem?_map, hx, Option.map_some, Option.some.injEq] at hx'
  subst hx'
  rcases kill_eq D x with e | e
  · rw [e]; exact hr
  · rw [e]; trivial

theorem app_put (Γ : St Gh) (t : Nat) (v : SV Gh) : Γ.app (effPut t v) = (Γ.put t v).kill [(t, [])] := rfl
theorem app_fin (Γ : St Gh) (d : Pend Gh) (t : Nat) (v : SV Gh) : Γ.app (d.fin t v) = ((putAll Γ d.ch.reverse).put t v).kill ((t, []) :: d.kill) := by
  simp [St.app, Pend.fin, putAll_append, putAll]
/-- A result that owns nothing. -/
theorem done_view {w0 : W0} {w : World} {Γ : St Gh} {tm : Array Value} (h : Inv w0 Γ [] tm w) {t : Nat} {v : SV Gh} {u : Value} (ht : t < tm.size) (hv : svRel Γ v u) (hh : ∀ x ∈ v.cs, scHolds w w0.zn x) (hf : footV v = []) :
    Inv w0 (Γ.app (effPut t v)) [] (tm.setIfInBounds t u) w := by
  rw [app_put]
  have h1 : Inv w0 (Γ.kill []) [] tm w := h.congr (fun s => by rw [get_kill, kill_nil_SV])
  refine done_put h1 ht ?_ hh (by rw [hf]; exact List.Perm.refl _)
  obtain ⟨vs, r1, r2⟩ := hv
  exact ⟨vs, rels_congr (fun s => by rw [get_kill, kill_nil_SV]) r1, r2⟩
end Go.Proofs.Ytnmocjhpbobahaa.L
namespace Go.Proofs.Ytnmocjhpbobahaa.L
open Go Go.RowKit

/-- The oracle's fixed part. -/
def gnil : Gh := ⟨none, 0⟩
def ev (tm : Array Value) (x : Operand) : Value := (⟨tm, []⟩ : Act).eval x
theorem ev_eq (tm : Array Value) (ds : List Deferred) (x : Operand) : (⟨tm, ds⟩ : Act).eval x = ev tm x := by cases x <;> rfl
theorem ev_fun (tm : Array Value) (ds : List Deferred) : (⟨tm, ds⟩ : Act).eval = ev tm := funext (ev_eq tm ds)

theorem const_cell {w : World} {sz : Nat} {n0 : Zn} {v : Value} {c : GC} (h : cellOfConst gnil sz v = some c) : holds w n0 c ∧ foot c = [] ∧ c.isDead = false ∧ c.val = v := by
  unfold cellOfConst at h
  split at h
  · split at h
    · next hz =>
      simp only [Option.some.injEq] at h
      subst h
      refine ⟨⟨⟨hz, by simp, by simp [gnil], by simp⟩, ⟨rfl, by simp [gnil]⟩, trivial⟩, rfl, rfl, ?_⟩
      simp [Cell.val, gnil]
    · cases h
  · split at h
    · next hs =>
      simp only [Option.some.injEq] at h
      subst h
      exact ⟨hs, rfl, rfl, rfl⟩
    · cases h
theorem const_cells {w : World} {n0 : Zn} : ∀ (vs : List Value) (szl : List Nat) (cs : List GC), cellsOfConst gnil szl vs = some cs →
    holdsL w n0 cs ∧ footL cs = [] ∧ (∀ c ∈ cs, c.isDead = false) ∧ cs.map Cell.val = vs
  | [], _, cs, h => by simp only [cellsOfConst, Option.some.injEq] at h; subst h; exact ⟨trivial, rfl, by simp, rfl⟩
  | v :: vs, szl, cs, h => by
    simp only [cellsOfConst] at h
    split at h
    · next c cs' h1 h2 =>
      simp only [Option.some.injEq] at h
      subst h
      obtain ⟨a1, a2, a3, a4⟩ := const_cell (w := w) (n0 := n0) h1
      obtain ⟨b1, b2, b3, b4⟩ := const_cells vs szl.tail cs' h2
      exact ⟨⟨a1, b1⟩, by simp [footL, a2, b2], by simpa [a3] using b3, by simp [a4, b4]⟩
    · cases h
theorem rels_cells {Γ : St Gh} (cs : List GC) : rels Γ (cs.map .c) (cs.map Cell.val) := by
  induction cs with
  | nil => trivial
  | cons c cs ih => exact ⟨.inr rfl, ih⟩
theorem constSV_ok {w : World} {n0 : Zn} {P : Program} {t : TypeId} {v : Value} {sv : SV Gh} (h : constSV P gnil t v = some sv) :
    ∃ cs, sv.cs = cs.map SC.c ∧ holdsL w n0 cs ∧ footL cs = [] ∧ (∀ c ∈ cs, c.isDead = false) ∧ v = pack sv.k (cs.map Cell.val) ∧ sv.k.flat = true := by
  unfold constSV at h
  split at h
  · split at h
    · next l hl =>
      simp only [Option.some.injEq] at h
      subst h
      obtain ⟨a1, a2, a3, a4⟩ := const_cells (w := w) (n0 := n0) _ _ _ hl
      exact ⟨l, rfl, a1, a2, a3, by simp [pack, a4], rfl⟩
    · cases h
  · split at h
    · next c hc =>
      simp only [Option.some.injEq] at h
      subst h
      obtain ⟨a1, a2, a3, a4⟩ := const_cell (w := w) (n0 := n0) hc
      exact ⟨[c], rfl, ⟨a1, trivial⟩, by simp [footL, a2], by simpa using a3, by simp [pack, a4], rfl⟩
    · cases h

theorem opd_ok {w0 : W0} {w : World} {Γ : St Gh} {xs : List GC} {tm : Array Value} (h : Inv w0 Γ xs tm w) {P : Program} {Ω : Orc Gh} (hn : Ω.nil = gnil) {t : TypeId} {x : Operand} {v : SV Gh} (ho : opd P Ω Γ t x = some v) :
    svRel Γ v (ev tm x) ∧ (∀ z ∈ v.cs, scHolds w w0.zn z) := by
  cases x with
  | tmp s =>
    simp only [opd, Option.some.injEq] at ho
    subst ho
    exact ⟨h.rel s, h.hold s⟩
  | const u =>
    simp only [opd, hn] at ho
    obtain ⟨cs, h1, h2, h3, h4, h5, _⟩ := constSV_ok (w := w) (n0 := w0.zn) ho
    refine ⟨⟨cs.map Cell.val, by rw [h1]; exact rels_cells cs, h5⟩, ?_⟩
    intro z hz
    rw [h1] at hz
    obtain ⟨c, hc, rfl⟩ := List.mem_map.1 hz
    exact holdsL_iff.1 h2 c hc
  | global g => simp [opd] at ho
  | func f => simp [opd] at ho

theorem scal_rel {Γ : St Gh} {x : SC Gh} {v u : Value} (h : x.scal = some v) (hr : scRel Γ x u) : u = v := by
  cases x with
  | c y => cases y with
    | sc z =>
      simp only [SC.scal, Option.some.injEq] at h
      subst h
      rcases hr with hr | hr
      · cases hr
      · exact hr
    | _ => simp [SC.scal] at h
  | _ => simp [SC.scal] at h
theorem scals_rel {Γ : St Gh} : ∀ {l : List (SC Gh)} {vs us : List Value}, scals l = some vs → rels Γ l us → us = vs
  | [], vs, us, h, hr => by
    simp only [scals, Option.some.injEq] at h
    subst h
    cases us with
    | nil => rfl
    | cons u us => simp [rels] at hr
  | x :: l, vs, us, h, hr => by
    simp only [scals] at h
    split at h
    · next v vs' h1 h2 =>
      simp only [Option.some.injEq] at h
      subst h
      cases us with
      | nil => simp [rels] at hr
      | cons u us => rw [scal_rel h1 hr.1, scals_rel h2 hr.2]
    · cases h
theorem val_ok {Γ : St Gh} {v : SV Gh} {u z : Value} (h : v.val = some u) (hr : svRel Γ v z) : z = u := by
  obtain ⟨vs, h1, h2⟩ := hr
  unfold SV.val at h
  split at h
  · next hk hs =>
    simp only [Option.some.injEq] at h
    subst h
    rw [h2, hk, scals_rel hs h1]; rfl
  · next hk hs =>
    simp only [Option.some.injEq] at h
    subst h
    rw [h2, hk, scals_rel hs h1]; rfl
  · next hk hs =>
    simp only [Option.some.injEq] at h
    subst h
    rw [h2, hk]; rfl
  · cases h
theorem valOf_ok {w0 : W0} {w : World} {Γ : St Gh} {xs : List GC} {tm : Array Value} (h : Inv w0 Γ xs tm w) {x : Operand} {u : Value} (hv : valOf Γ x = some u) : ev tm x = u := by
  cases x with
  | tmp s => exact val_ok hv (h.rel s)
  | const v =>
    simp only [valOf] at hv
    split at hv
    · split at hv
      · simpa [ev, Act.eval] using hv
      · cases hv
    · split at hv
      · simpa [ev, Act.eval] using hv
      · cases hv
  | global g => simp [valOf] at hv
  | func f => simp [valOf] at hv
theorem intOf_ok {w0 : W0} {w : World} {Γ : St Gh} {xs : List GC} {tm : Array Value} (h : Inv w0 Γ xs tm w) {x : Operand} {n : Int} (hv : intOf? Γ x = some n) : ∃ k, ev tm x = .int k n := by
  unfold intOf? at hv
  split at hv
  · next k m hm =>
    simp only [Option.some.injEq] at hv
    subst hv
    exact ⟨k, valOf_ok h hm⟩
  · cases hv
theorem natOf_ok {w0 : W0} {w : World} {Γ : St Gh} {xs : List GC} {tm : Array Value} (h : Inv w0 Γ xs tm w) {x : Operand} {n : Nat} (hv : natOf? Γ x = some n) : ∃ k, ev tm x = .int k (n : Int) := by
  unfold natOf? at hv
  split at hv
  · next m hm =>
    split at hv
    · next h0 =>
      simp only [Option.some.injEq] at hv
      subst hv
      obtain ⟨k, hk⟩ := intOf_ok h hm
      exact ⟨k, by rw [hk, Int.toNat_of_nonneg h0]⟩
    · cases hv
  · cases hv

theorem ofVal_ok {Γ : St Gh} {v : Value} {sv : SV Gh} (h : ofVal v = some sv) (w : World) (n0 : Zn) : svRel Γ sv v ∧ (∀ z ∈ sv.cs, scHolds w n0 z) ∧ footV sv = [] := by
  have key : ∀ l : List Value, (∀ x ∈ l, isSc x = true) → rels Γ (l.map fun v => .c (.sc v)) l ∧ (∀ z ∈ l.map (fun v => SC.c (Cell.sc v)), scHolds w n0 z) ∧ footL ((l.map fun v => SC.c (Cell.sc v)).map SC.cell) = [] := by
    intro l hl
    induction l with
    | nil => exact ⟨trivial, by simp, rfl⟩
    | cons x l ih =>
      obtain ⟨a1, a2, a3⟩ := ih (fun y hy => hl y (by simp [hy]))
      refine ⟨⟨.inr rfl, a1⟩, ?_, ?_⟩
      · intro z hz
        simp only [List.map_cons, List.mem_cons] at hz
        rcases hz with rfl | hz
        · exact hl x (by simp)
        · exact a2 z hz
      · simp only [List.map_cons, SC.cell, footL, foot, List.nil_append]
        exact a3
  unfold ofVal at h
  split at h
  · split at h
    · next cs hs =>
      simp only [Option.some.injEq] at h
      subst h
      obtain ⟨a1, a2, a3⟩ := key cs.toList (fun x hx => List.all_eq_true.1 hs x hx)
      exact ⟨⟨_, a1, by simp [pack]⟩, a2, a3⟩
    · cases h
  · split at h
    · next hs =>
      simp only [Option.some.injEq] at h
      subst h
      obtain ⟨a1, a2, a3⟩ := key [v] (by simpa using hs)
      exact ⟨⟨_, a1, rfl⟩, a2, a3⟩
    · cases h

theorem pv_run {β : Type} {P : Program} : ∀ {s : Sem β} {b : β}, pv P s = some b → ∀ w, s.run P w = .ok b w := by
  intro s
  induction s with
  | pure a => intro b h w; simp only [pv, Option.some.injEq] at h; subst h; rfl
  | program k ih => intro b h w; simp only [pv] at h; exact ih P h w
  | mark m k ih => intro b h w; simp only [pv] at h; exact ih h w
  | _ => intro b h w; simp [pv] at h

/-- What an operation's run must show. -/
def Sim (P : Program) (E : Env) (o : Oper) : Prop := ∀ (w0 : W0) (w : World) (Γ : St Gh) (tm : Array Value) (e : Eff Unit), Inv w0 Γ [] tm w → ieff P E ΩU Γ.erase o = some e →
  (∀ t, o.dst = some t → t < tm.size) → ∀ ds next Q, (∀ Γ' tm' w', Inv w0 Γ' [] tm' w' → Γ'.erase = Γ.erase.app e → tm'.size = tm.size → (o.dst ≠ some 0 → tm'.getD 0 undef = tm.getD 0 undef) → next ⟨tm', ds⟩ w') → o.wp P ⟨tm, ds⟩ w next Q

def goodΩ (a : Gh) : Orc Gh := ⟨a, gnil, fun r => ⟨r.k, r.cs.map fun x => match x with
  | .c y => .c (dec y)
  | .view r p => .view r p
  | .win r p lo n f => .win r p lo n f
  | .ref r p off m => .ref r p off m
  | .fref _ row off => .fref gnil (decL row) off
  | .cut r y ws => .cut r (dec y) (ws.map fun e => (e.1, e.2.1, dec e.2.2))
  | .dead => .dead⟩⟩
where
  dec : Cell Unit → GC
    | .sc v => .sc v
    | .sl o sz _ row => .sl o sz gnil (decL row)
    | .bx o _ row => .bx o gnil (decL row)
    | .dead => .dead
  decL : List (Cell Unit) → List GC
    | [] => []
    | c :: l => dec c :: decL l
mutual
theorem dec_erase : ∀ c : Cell Unit, (goodΩ.dec c).erase = c
  | .sc v => by simp [goodΩ.dec, Cell.erase]
  | .sl o sz a row => by simp [goodΩ.dec, Cell.erase, decL_erase row]
  | .bx o a row => by simp [goodΩ.dec, Cell.erase, decL_erase row]
  | .dead => by simp [goodΩ.dec, Cell.erase]
theorem decL_erase : ∀ l : List (Cell Unit), eraseL (goodΩ.decL l) = l
  | [] => rfl
  | c :: l => by simp [goodΩ.decL, eraseL, dec_erase c, decL_erase l]
end
theorem goodΩ_ok (a : Gh) (r : SV Unit) : ((goodΩ a).dec r).erase = r := by
  cases r with
  | mk k cs =>
    simp only [goodΩ, SV.erase, List.map_map, SV.mk.injEq, true_and]
    refine (List.map_congr_left ?_).trans (List.map_id' cs)
    intro x _
    cases x with
    | cut r y ws =>
      simp only [Function.comp, SC.erase, dec_erase, List.map_map, SC.cut.injEq, true_and]
      refine (List.map_congr_left ?_).trans (List.map_id' ws)
      intro e _
      simp [dec_erase]
    | _ => simp [Function.comp, SC.erase, dec_erase, decL_erase]

theorem set_zero {tm : Array Value} {t : Nat} {v : Value} (h : t ≠ 0) : (tm.setIfInBounds t v).getD 0 undef = tm.getD 0 undef := by
  simp only [Array.getD_eq_getD_getElem?, Array.getElem?_setIfInBounds, if_neg h]
/-- An operation that gives a value. -/
theorem sim_valueΩ {P : Program} {E : Env} {o : Oper} {t : Nat} (ht : o.dst = some t)
    (h : ∀ (w0 : W0) (w : World) (Γ : St Gh) (tm : Array Value), Inv w0 Γ [] tm w → t < tm.size → (ieff P E ΩU Γ.erase o).isSome → ∃ (Ω : Orc Gh) (v : Value) (w' : World), (∀ r, (Ω.dec r).erase = r) ∧ (execOp (ev tm) o).run P w = .ok (.value v) w' ∧
      ∀ e', ieff P E Ω Γ o = some e' → Inv w0 (Γ.app e') [] (tm.setIfInBounds t v) w') : Sim P E o := by
  intro w0 w Γ tm e hI he hd ds next Q hn
  obtain ⟨Ω, v, w', hΩ, hr, hk⟩ := h w0 w Γ tm hI (hd t ht) (by rw [he]; rfl)
  have := ieff_erase P E Ω hΩ Γ o
  rw [he] at this
  cases hi : ieff P E Ω Γ o with
  | none => rw [hi] at this; cases this
  | some e' =>
    rw [hi] at this
    simp only [Option.map_some, Option.some.injEq] at this
    unfold Oper.wp
    rw [ev_fun, hr, Oper.upon_value, ht]
    exact hn _ _ _ (hk e' hi) (by rw [app_erase, this]) (by simp) (fun h0 => set_zero (fun e => h0 (by rw [ht, e])))
theorem sim_value {P : Program} {E : Env} {o : Oper} {t : Nat} (ht : o.dst = some t)
    (h : ∀ (w0 : W0) (w : World) (Γ : St Gh) (tm : Array Value), Inv w0 Γ [] tm w → t < tm.size → (ieff P E ΩU Γ.erase o).isSome → ∃ a v w', (execOp (ev tm) o).run P w = .ok (.value v) w' ∧
      ∀ e', ieff P E (goodΩ a) Γ o = some e' → Inv w0 (Γ.app e') [] (tm.setIfInBounds t v) w') : Sim P E o :=
  sim_valueΩ ht fun w0 w Γ tm hI hd he => by
    obtain ⟨a, v, w', hr, hk⟩ := h w0 w Γ tm hI hd he
    exact ⟨goodΩ a, v, w', goodΩ_ok a, hr, hk⟩

theorem eff_some {P : Program} {E : Env} (a : Gh) {Γ : St Gh} {o : Oper} (h : (ieff P E ΩU Γ.erase o).isSome) : ∃ e', ieff P E (goodΩ a) Γ o = some e' := by
  have := ieff_erase P E (goodΩ a) (goodΩ_ok a) Γ o
  rw [this] at h
  cases hi : ieff P E (goodΩ a) Γ o with
  | none => rw [hi] at h; simp at h
  | some e' => exact ⟨e', rfl⟩

theorem pureOp_select {op : Op} (h : pureOp op = true) (cs : Array SelectCase) (b : Bool) : op ≠ .select cs b := by
  intro e; subst e; simp [pureOp] at h
/-- What reads neither memory nor the tape. -/
theorem pure_ok {w0 : W0} {w : World} {Γ : St Gh} {tm : Array Value} (h : Inv w0 Γ [] tm w) {P : Program} {t : Nat} {o : Oper} {e : Eff Gh} (ht : t < tm.size) (he : effPure P Γ t o = some e) :
    ∃ v, (execOp (ev tm) o).run P w = .ok (.value v) w ∧ Inv w0 (Γ.app e) [] (tm.setIfInBounds t v) w := by
  unfold effPure at he
  split at he
  · next hc =>
    simp only [Bool.and_eq_true, List.all_eq_true] at hc
    obtain ⟨h1, h2⟩ := hc
    split at he
    · next v hv =>
      cases hs : (ofVal v : Option (SV Gh)) with
      | none => rw [hs] at he; cases he
      | some sv =>
        rw [hs] at he
        simp only [Option.map_some, Option.some.injEq] at he
        subst he
        refine ⟨v, ?_, ?_⟩
        · rw [← pv_run hv w]
          congr 1
          refine execOp_congr o (fun cs b => pureOp_select h1 cs b) ?_
          intro x hx
          have := h2 x (by simpa using hx)
          cases hvx : valOf Γ x with
          | none => rw [hvx] at this; cases this
          | some u => rw [Option.getD_some]; exact valOf_ok h hvx
        · obtain ⟨a1, a2, a3⟩ := ofVal_ok (Γ := Γ) hs w w0.zn
          exact done_view h ht a1 a2 a3
    · cases he
  · cases he

theorem share_rel {Γ : St Gh} {s i : Nat} {x : SC Gh} {u : Value} (hx : (Γ.get s).cs[i]? = some x) (h : scRel Γ x u) : scRel Γ (share s i x) u := by
  cases x with
  | c y =>
    simp only [share]
    split
    · next ho =>
      refine ⟨y, ?_, ho, ?_⟩
      · simp [SV.getP, hx, Cell.getC]
      · rcases h with h | h
        · rw [isDead_own ho] at h; cases h
        · exact h
    · exact h
  | cut r y ws => trivial
  | _ => exact h
theorem shareAll_rel {Γ : St Gh} {s : Nat} : ∀ (l : List (SC Gh)) (us : List Value) (i : Nat), (∀ k x, l[k]? = some x → (Γ.get s).cs[i + k]? = some x) → rels Γ l us → rels Γ (shareAll s i l) us
  | [], us, i, _, h => by cases us <;> simp_all [rels, shareAll]
  | x :: l, us, i, hx, h => by
    cases us with
    | nil => simp [rels] at h
    | cons u us =>
      exact ⟨share_rel (by simpa using hx 0 x rfl) h.1, shareAll_rel l us (i + 1) (fun k y hk => by have := hx (k + 1) y (by simpa using hk); rwa [show i + (k + 1) = i + 1 + k by omega] at this) h.2⟩
theorem shareAll_hold {w : World} {s : Nat} {n0 : Zn} : ∀ (l : List (SC Gh)) (i : Nat), (∀ x ∈ l, scHolds w n0 x) → (∀ x ∈ shareAll s i l, scHolds w n0 x) ∧ (footL ((shareAll s i l).map SC.cell) = [])
  | [], _, _ => ⟨by simp [shareAll], rfl⟩
  | x :: l, i, h => by
    obtain ⟨a1, a2⟩ := shareAll_hold (w := w) (n0 := n0) (s := s) l (i + 1) (fun y hy => h y (by simp [hy]))
    have hx := h x (by simp)
    have : scHolds w n0 (share s i x) ∧ foot (share s i x).cell = [] := by
      cases x with
      | c y =>
        simp only [share]
        split
        · exact ⟨trivial, rfl⟩
        · next ho =>
          refine ⟨hx, ?_⟩
          have hx' : holds w n0 y := hx
          cases y with
          | sc v => rfl
          | dead => rfl
          | sl o sz g row =>
            simp only [Cell.isOwn, Bool.not_eq_true] at ho
            subst ho
            exact foot_copyable rfl hx'
          | bx o g row =>
            simp only [Cell.isOwn, Bool.not_eq_true] at ho
            subst ho
            exact foot_copyable rfl hx'
      | cut r y ws => exact ⟨trivial, rfl⟩
      | _ => exact ⟨hx, rfl⟩
    refine ⟨?_, ?_⟩
    · intro y hy
      simp only [shareAll, List.mem_cons] at hy
      rcases hy with rfl | hy
      · exact this.1
      · exact a1 y hy
    · simp only [shareAll, List.map_cons, footL, this.2, a2, List.nil_append]
theorem shareFrom_ok {w0 : W0} {w : World} {Γ : St Gh} {xs : List GC} {tm : Array Value} (h : Inv w0 Γ xs tm w) {P : Program} {Ω : Orc Gh} (hn : Ω.nil = gnil) {t : TypeId} {x : Operand} {v : SV Gh} (ho : opd P Ω Γ t x = some v) {us : List Value} (hu : rels Γ v.cs us) :
    rels Γ (shareFrom (slotOf x) v.cs) us ∧ (∀ z ∈ shareFrom (slotOf x) v.cs, scHolds w w0.zn z) ∧ footL ((shareFrom (slotOf x) v.cs).map SC.cell) = [] := by
  have hh := (opd_ok h hn ho).2
  cases x with
  | tmp s =>
    simp only [opd, Option.some.injEq] at ho
    subst ho
    simp only [slotOf, shareFrom]
    have := shareAll_hold (s := s) (Γ.get s).cs 0 hh
    exact ⟨shareAll_rel _ _ 0 (fun k x hk => by simpa using hk) hu, this.1, this.2⟩
  | const u =>
    simp only [opd, hn] at ho
    obtain ⟨cs, h1, h2, h3, h4, h5, _⟩ := constSV_ok (w := w) (n0 := w0.zn) ho
    refine ⟨hu, hh, ?_⟩
    simp only [slotOf, shareFrom, h1, List.map_map]
    have : (SC.cell ∘ SC.c : GC → GC) = id := rfl
    rw [this, List.map_id]
    exact h3
  | global g => simp [opd] at ho
  | func f => simp [opd] at ho

theorem move_ok {w0 : W0} {w : World} {Γ : St Gh} {tm : Array Value} (h : Inv w0 Γ [] tm w) {P : Program} {Ω : Orc Gh} (hn : Ω.nil = gnil) {t ty : Nat} {x : Operand} {e : Eff Gh} (ht : t < tm.size) (he : effMove P Ω Γ t ty x = some e) :
    Inv w0 (Γ.app e) [] (tm.setIfInBounds t (ev tm x)) w := by
  unfold effMove at he
  split at he
  · next v hv =>
    simp only [Option.some.injEq] at he
    subst he
    obtain ⟨⟨us, h1, h2⟩, _⟩ := opd_ok h hn hv
    obtain ⟨a1, a2, a3⟩ := shareFrom_ok h hn hv h1
    exact done_view h ht ⟨us, a1, h2⟩ a2 a3
  · cases he
end Go.Proofs.Ytnmocjhpbobahaa.L
namespace Go.Proofs.Ytnmocjhpbobahaa.L
open Go Go.RowKit

theorem one_rel (Γ : St Gh) (y : GC) : svRel Γ (one (.c y)) y.val := ⟨[y.val], ⟨.inr rfl, trivial⟩, rfl⟩
/-- Laying one owned cell. -/
theorem done_one {w0 : W0} {w : World} {Γ : St Gh} {tm : Array Value} {D : List (Nat × List Nat)} {y : GC} (h : Inv w0 (Γ.kill D) [y] tm w) {t : Nat} (ht : t < tm.size) :
    Inv w0 ((Γ.put t (one (.c y))).kill ((t, []) :: D)) [] (tm.setIfInBounds t y.val) w :=
  done_put h ht (one_rel _ y) (by intro x hx; simp only [one, List.mem_singleton] at hx; subst hx; exact h.pool.1) (List.Perm.refl _)
theorem kill_nil {w0 : W0} {w : World} {Γ : St Gh} {xs : List GC} {tm : Array Value} (h : Inv w0 Γ xs tm w) : Inv w0 (Γ.kill []) xs tm w := h.congr (fun s => by rw [get_kill, kill_nil_SV])

theorem zeroCells_ok {P : Program} {e : TypeId} {l : List GC} (h : zeroCellsOf P gnil e = some l) (w : World) (n0 : Zn) :
    ∃ i v, P.info? e = some i ∧ i.zero = some v ∧ holdsL w n0 l ∧ footL l = [] ∧ (∀ c ∈ l, c.isDead = false) ∧ l.map Cell.val = v.cells.toList := by
  unfold zeroCellsOf at h
  split at h
  · next i hi =>
    split at h
    · next v hv =>
      obtain ⟨a1, a2, a3, a4⟩ := const_cells (w := w) (n0 := n0) _ _ _ h
      exact ⟨i, v, hi, hv, a1, a2, a3, a4⟩
    · cases h
  · cases h
theorem cells_of_vals {l : List GC} {vs : List Value} (h : l.map Cell.val = vs) (i : Nat) (c : GC) (hc : l[i]? = some c) : ∃ v, vs.toArray[i]? = some v ∧ (c.isDead = true ∨ v = c.val) := by
  subst h
  exact ⟨c.val, by simp [hc], .inr rfl⟩

theorem alloc_ok {w0 : W0} {w : World} {Γ : St Gh} {tm : Array Value} (h : Inv w0 Γ [] tm w) {P : Program} {t e : Nat} {ef : Eff Gh} (ht : t < tm.size) (he : effAlloc P (goodΩ ⟨some ⟨w.heap.size, 0, none⟩, 0⟩) t e = some ef) :
    ∃ v w', (Instr.alloc e true (.tuple #[])).run P w = .ok v w' ∧ Inv w0 (Γ.app ef) [] (tm.setIfInBounds t v) w' := by
  unfold effAlloc at he
  split at he
  · next l hl =>
    simp only [Option.some.injEq] at he
    subst he
    obtain ⟨i, v, h1, h2, h3, h4, h5, h6⟩ := zeroCells_ok hl w w0.zn
    refine ⟨.pointer (some ⟨w.heap.size, 0, none⟩), w.alloc (.cells v.cells e), ?_, ?_⟩
    · simp [Instr.alloc, zeroValue, typeInfo, h1, h2, newVar, newRow]
    · rw [app_put]
      have hf := Inv.fresh (ys := []) (xs := []) (row := l) (cs := v.cells) (e := e) (by simpa using h) (by rw [h4]; exact List.Perm.refl _) h3
        (fun i c hc => by have := cells_of_vals h6 i c hc; simpa using this) (c := .bx true ⟨some ⟨w.heap.size, 0, none⟩, 0⟩ l) (.inl ⟨rfl, by rw [← Array.length_toList, ← h6]; simp⟩)
      exact done_one (kill_nil hf) ht
  · cases he

theorem takeFrom_ok {w0 : W0} {w : World} {Γ : St Gh} {tm : Array Value} {P : Program} {Ω : Orc Gh} (hn : Ω.nil = gnil) {ty : TypeId} {x : Operand} {v : SV Gh} {us : List Value} {pool : List GC} {d d' : Pend Gh} {ys : List GC}
    (h0 : Inv w0 Γ [] tm w) (ho : opd P Ω Γ ty x = some v) (hu : rels Γ v.cs us) (h : Inv w0 (Γ.pend d) pool tm w) (hb : Back Γ (Γ.pend d)) (ht : takeFrom Γ (slotOf x) d v.cs = some (ys, d')) :
    Inv w0 (Γ.pend d') (ys ++ pool) tm w ∧ Back Γ (Γ.pend d') ∧ us = ys.map Cell.val ∧ (∀ y ∈ ys, y.isDead = false) := by
  have hh := (opd_ok h0 hn ho).2
  cases x with
  | tmp s =>
    simp only [opd, Option.some.injEq] at ho
    subst ho
    exact takeAll_ok (Γ.get s).cs us pool d d' 0 ys h hb (fun k c hk _ => by simpa using hk) hu hh ht
  | const u =>
    simp only [opd, hn] at ho
    obtain ⟨cs, h1, h2, h3, h4, h5, _⟩ := constSV_ok (w := w) (n0 := w0.zn) ho
    simp only [slotOf, takeFrom, h1, List.map_map, Option.some.injEq, Prod.mk.injEq] at ht
    have e : (SC.cell ∘ SC.c : GC → GC) = id := rfl
    rw [e, List.map_id] at ht
    obtain ⟨rfl, rfl⟩ := ht
    refine ⟨?_, hb, ?_, h4⟩
    · have key : ∀ l : List GC, holdsL w w0.zn l → footL l = [] → Inv w0 (Γ.pend d) (l ++ pool) tm w := by
        intro l
        induction l with
        | nil => intro _ _; exact h
        | cons c l ih =>
          intro a1 a2
          simp only [footL, List.append_eq_nil_iff] at a2
          exact holds_free (ih a1.2 a2.2) a1.1 a2.1
      exact key cs h2 h3
    · rw [h1] at hu
      have key : ∀ (l : List GC) (us : List Value), (∀ c ∈ l, c.isDead = false) → rels Γ (l.map .c) us → us = l.map Cell.val := by
        intro l
        induction l with
        | nil => intro us _ hr; cases us <;> simp_all [rels]
        | cons c l ih =>
          intro us hd hr
          cases us with
          | nil => simp [rels] at hr
          | cons u us =>
            obtain ⟨r1, r2⟩ := hr
            rcases r1 with r1 | r1
            · rw [hd c (by simp)] at r1; cases r1
            · rw [ih us (fun c hc => hd c (by simp [hc])) r2, r1]; rfl
      exact key cs us h4 hu
  | global g => simp [opd] at ho
  | func f => simp [opd] at ho

theorem pack_cells {k : Kd} (hk : k.flat = true) {us : List Value} {n : Nat} (hl : k = .one → us.length = 1) (h1 : ∀ u ∈ us, oneCell u = true) : (pack k us).cells = us.toArray := by
  cases k with
  | one =>
    cases us with
    | nil => simp at hl
    | cons u us =>
      cases us with
      | cons v us => simp at hl
      | nil =>
        have := h1 u (by simp)
        cases u <;> simp_all [pack, Value.cells, oneCell]
  | agg => rfl
  | tup l => simp [Kd.flat] at hk
theorem box_ok {w0 : W0} {w : World} {Γ : St Gh} {tm : Array Value} (h : Inv w0 Γ [] tm w) {P : Program} {t e : Nat} {x : Operand} {ef : Eff Gh} (ht : t < tm.size) (he : effBox P (goodΩ ⟨some ⟨w.heap.size, 0, none⟩, 0⟩) Γ t e x = some ef) :
    ∃ v w', (Instr.box e (ev tm x)).run P w = .ok v w' ∧ Inv w0 (Γ.app ef) [] (tm.setIfInBounds t v) w' := by
  unfold effBox at he
  split at he
  · next v hv =>
    split at he
    · next hk =>
      split at he
      · next l d hl =>
        split at he
        · next hlen =>
          simp only [Option.some.injEq] at he
          subst he
          obtain ⟨⟨us, h1, h2⟩, _⟩ := opd_ok h rfl hv
          obtain ⟨a1, a2, a3, a4⟩ := takeFrom_ok rfl h hv h1 (h.congr (pend0_get Γ)) (fun r q z hz ho => ⟨z, by rw [pend0_get] at hz; exact hz, rfl⟩) hl
          have hone : ∀ u ∈ us, oneCell u = true := by
            intro u hu
            rw [a3] at hu
            obtain ⟨y, hy, rfl⟩ := List.mem_map.1 hu
            exact val_oneCell (holdsL_iff.1 a1.pool y (by simp [hy])) (a4 y hy)
          have hc : (ev tm x).cells = us.toArray := by
            rw [h2]
            exact pack_cells (n := 0) hk (fun e => by rw [a3, List.length_map]; exact hlen e) hone
          refine ⟨.pointer (some ⟨w.heap.size, 0, none⟩), w.alloc (.cells (ev tm x).cells e), ?_, ?_⟩
          · simp [Instr.box, newVar, newRow]
          · rw [app_fin]
            have hf := Inv.fresh (ys := l) (xs := []) (row := l) (cs := (ev tm x).cells) (e := e) a1 (List.Perm.refl _) (by have := a1.pool; simpa using this)
              (fun i c hc' => by rw [hc]; exact cells_of_vals a3.symm i c hc') (c := .bx true ⟨some ⟨w.heap.size, 0, none⟩, 0⟩ l) (.inl ⟨rfl, by rw [hc, a3]; simp⟩)
            exact done_one hf ht
        · cases he
      · cases he
    · cases he
  · cases he

/-! ### building -/
theorem foldl_setRun : ∀ (vs : List Value) (cs : Array Value) (off k : Nat), ((vs.zipIdx k).foldl (fun cs (x : Value × Nat) => cs.setIfInBounds (off + x.2) x.1) cs).toList = setRun cs.toList (off + k) vs
  | [], cs, off, k => rfl
  | v :: vs, cs, off, k => by
    simp only [List.zipIdx_cons, List.foldl_cons, setRun]
    rw [foldl_setRun vs _ off (k + 1)]
    simp [Nat.add_assoc]
theorem setRun_length {β : Type} : ∀ (ys row : List β) (off : Nat), (setRun row off ys).length = row.length
  | [], _, _ => rfl
  | y :: ys, row, off => by simp only [setRun]; rw [setRun_length ys]; simp
theorem fill_ok (place : Nat → Option (Nat × Nat)) : ∀ (ps : List (Nat × List Value)) (vs : List (Nat × Value)) (l r : List Value), fillParts place l ps = some r →
    vs.length = ps.length → (∀ (k : Nat) (p : Nat × List Value) (v : Nat × Value), ps[k]? = some p → vs[k]? = some v → v.1 = p.1 ∧ v.2.cells.toList = p.2) → Instr.fill place l.toArray vs = some r.toArray
  | [], vs, l, r, h, hl, _ => by
    simp only [fillParts, Option.some.injEq] at h
    subst h
    cases vs with
    | nil => rfl
    | cons v vs => simp at hl
  | (i, xs) :: ps, vs, l, r, h, hl, hv => by
    cases vs with
    | nil => simp at hl
    | cons v vs =>
      obtain ⟨iv, v⟩ := v
      obtain ⟨e1, e2⟩ := hv 0 (i, xs) (iv, v) rfl rfl
      simp only at e1 e2
      subst e1
      simp only [fillParts] at h
      cases hp : place iv with
      | none => rw [hp] at h; cases h
      | some os =>
        obtain ⟨off, size⟩ := os
        rw [hp] at h
        simp only at h
        split at h
        · next hc =>
          have hs : v.cells.size = xs.length := by rw [← Array.length_toList, e2]
          simp only [Instr.fill, hp]
          rw [if_neg (by simp [hs, hc.1]; have := hc.2; omega)]
          have : (v.cells.zipIdx.foldl (fun cs (x : Value × Nat) => cs.setIfInBounds (off + x.2) x.1) l.toArray) = (setRun l off xs).toArray := by
            apply Array.ext'
            rw [← Array.foldl_toList]
            have hz : v.cells.zipIdx.toList = v.cells.toList.zipIdx 0 := by simp [Array.toList_zipIdx]
            rw [hz, foldl_setRun, e2]
            simp
          show Instr.fill place (v.cells.zipIdx.foldl (fun cs (x : Value × Nat) => cs.setIfInBounds (off + x.2) x.1) l.toArray) vs = _
          rw [this]
          exact fill_ok place ps vs (setRun l off xs) r h (by simpa using hl) (fun k p v hp hv' => hv (k + 1) p v (by simpa using hp) (by simpa using hv'))
        · cases h
end Go.Proofs.Ytnmocjhpbobahaa.L
namespace Go.Proofs.Ytnmocjhpbobahaa.L
open Go Go.RowKit

theorem rels_set {Γ : St Gh} {l : List (SC Gh)} {us : List Value} (h : rels Γ l us) (i : Nat) {x : SC Gh} {u : Value} (hx : scRel Γ x u) : rels Γ (l.set i x) (us.set i u) := by
  induction l generalizing us i with
  | nil => cases us <;> simp_all [rels]
  | cons y l ih => cases us with
    | nil => simp [rels] at h
    | cons v us => cases i with
      | zero => exact ⟨hx, h.2⟩
      | succ i => exact ⟨h.1, ih h.2 i⟩
theorem rels_setRun {Γ : St Gh} : ∀ {xs : List (SC Gh)} {vs : List Value}, rels Γ xs vs → ∀ {l : List (SC Gh)} {us : List Value}, rels Γ l us → ∀ off, rels Γ (setRun l off xs) (setRun us off vs)
  | [], [], _, _, _, h, _ => h
  | x :: xs, v :: vs, hx, _, _, h, off => rels_setRun hx.2 (rels_set h off hx.1) (off + 1)
  | [], v :: vs, h, _, _, _, _ => by simp [rels] at h
  | x :: xs, [], h, _, _, _, _ => by simp [rels] at h

theorem live_one {w : World} {n0 : Zn} {Γ : St Gh} {x : SC Gh} {u : Value} (hl : x.live = true) (hr : scRel Γ x u) (hh : scHolds w n0 x) : oneCell u = true := by
  cases x with
  | c y =>
    have hd : y.isDead = false := by cases y <;> simp_all [SC.live, Cell.isDead]
    rcases hr with hr | hr
    · rw [hd] at hr; cases hr
    · rw [hr]; exact val_oneCell hh hd
  | view r p =>
    obtain ⟨y, _, ho, hv⟩ := hr
    rw [hv]
    cases y <;> simp_all [Cell.isOwn, Cell.val, oneCell]
  | win r p lo n f =>
    obtain ⟨y, _, sz, g, len, _, _, _, _, a', cap', hv, _⟩ := hr
    rw [hv]; rfl
  | ref r p off m => obtain ⟨y, _, _, a, _, hv⟩ := hr; rw [hv]; cases m <;> rfl
  | fref g row off => obtain ⟨a, _, hv⟩ := hr; rw [hv]; rfl
  | cut r y ws => simp [SC.live] at hl
  | dead => simp [SC.live] at hl
theorem lives_one {w : World} {n0 : Zn} {Γ : St Gh} : ∀ {l : List (SC Gh)} {us : List Value}, l.all SC.live = true → rels Γ l us → (∀ x ∈ l, scHolds w n0 x) → ∀ u ∈ us, oneCell u = true
  | [], [], _, _, _, u, hu => by simp at hu
  | x :: l, v :: us, hl, hr, hh, u, hu => by
    simp only [List.all_cons, Bool.and_eq_true] at hl
    rcases List.mem_cons.1 hu with rfl | hu
    · exact live_one hl.1 hr.1 (hh x (by simp))
    · exact lives_one hl.2 hr.2 (fun z hz => hh z (by simp [hz])) u hu
  | [], v :: us, _, hr, _, _, _ => by simp [rels] at hr
  | x :: l, [], _, hr, _, _, _ => by simp [rels] at hr
theorem okPart_cells {w : World} {n0 : Zn} {Γ : St Gh} {v : SV Gh} {us : List Value} (hv : v.okPart = true) (hr : rels Γ v.cs us) (hh : ∀ x ∈ v.cs, scHolds w n0 x) : (pack v.k us).cells.toList = us := by
  simp only [SV.okPart, Bool.and_eq_true, Bool.or_eq_true, bne_iff_ne, ne_eq, beq_iff_eq] at hv
  obtain ⟨⟨h1, h2⟩, h3⟩ := hv
  rw [pack_cells (n := 0) h1 ?_ (lives_one h3 hr hh)]
  intro e
  rw [rels_length hr]
  rcases h2 with h2 | h2
  · exact absurd e h2
  · exact h2

/-- The parts of a build: their values, cell by cell. -/
theorem parts_see {w0 : W0} {w : World} {Γ : St Gh} {tm : Array Value} (h : Inv w0 Γ [] tm w) {P : Program} {Ω : Orc Gh} (hn : Ω.nil = gnil) {ty : Nat → TypeId} : ∀ (parts : List (Nat × Operand)) (ps : List (Nat × Option Nat × List (SC Gh))),
    partsOf P Ω Γ ty parts = some ps → ∃ pvs : List (Nat × List Value), pvs.length = parts.length ∧
      (∀ (k : Nat) (p : Nat × List Value) (x : Nat × Operand), pvs[k]? = some p → parts[k]? = some x → p.1 = x.1 ∧ (ev tm x.2).cells.toList = p.2) ∧
      (∀ (k : Nat) (p : Nat × List Value) (z : Nat × List (SC Gh)), pvs[k]? = some p → (seeParts ps)[k]? = some z → z.1 = p.1 ∧ rels Γ z.2 p.2 ∧ (∀ x ∈ z.2, scHolds w w0.zn x) ∧ footL (z.2.map SC.cell) = []) ∧
      (seeParts ps).length = pvs.length
  | [], ps, hp => by
    simp only [partsOf, Option.some.injEq] at hp
    subst hp
    exact ⟨[], rfl, by simp, by simp [seeParts], rfl⟩
  | (i, x) :: parts, ps, hp => by
    simp only [partsOf] at hp
    split at hp
    · next v l hv hl =>
      split at hp
      · next hok =>
        simp only [Option.some.injEq] at hp
        subst hp
        obtain ⟨pvs, a1, a2, a3, a4⟩ := parts_see h hn parts l hl
        obtain ⟨⟨us, h1, h2⟩, h3⟩ := opd_ok h hn hv
        obtain ⟨b1, b2, b3⟩ := shareFrom_ok h hn hv h1
        refine ⟨(i, us) :: pvs, by simp [a1], ?_, ?_, by simp [seeParts, a4]⟩
        · intro k p y hp hy
          cases k with
          | zero =>
            simp at hp hy
            subst hp; subst hy
            exact ⟨rfl, by rw [h2]; exact okPart_cells hok h1 h3⟩
          | succ k => exact a2 k p y (by simpa using hp) (by simpa using hy)
        · intro k p z hp hz
          cases k with
          | zero =>
            simp [seeParts] at hp hz
            subst hp; subst hz
            exact ⟨rfl, b1, b2, b3⟩
          | succ k => exact a3 k p z (by simpa using hp) (by simpa [seeParts] using hz)
      · cases hp
    · cases hp

theorem fill_rels {w : World} {n0 : Zn} {Γ : St Gh} {place : Nat → Option (Nat × Nat)} : ∀ (zs : List (Nat × List (SC Gh))) (pvs : List (Nat × List Value)) (l r : List (SC Gh)) (us : List Value),
    zs.length = pvs.length → (∀ (k : Nat) (p : Nat × List Value) (z : Nat × List (SC Gh)), pvs[k]? = some p → zs[k]? = some z → z.1 = p.1 ∧ rels Γ z.2 p.2 ∧ (∀ x ∈ z.2, scHolds w n0 x) ∧ footL (z.2.map SC.cell) = []) →
    rels Γ l us → (∀ x ∈ l, scHolds w n0 x) → footL (l.map SC.cell) = [] → fillParts place l zs = some r →
    ∃ us', fillParts place us pvs = some us' ∧ rels Γ r us' ∧ (∀ x ∈ r, scHolds w n0 x) ∧ footL (r.map SC.cell) = []
  | [], pvs, l, r, us, hl, _, h1, h2, h3, hf => by
    simp only [fillParts, Option.some.injEq] at hf
    subst hf
    cases pvs with
    | nil => exact ⟨us, rfl, h1, h2, h3⟩
    | cons p pvs => simp at hl
  | (i, xs) :: zs, pvs, l, r, us, hl, hz, h1, h2, h3, hf => by
    cases pvs with
    | nil => simp at hl
    | cons p pvs =>
      obtain ⟨ip, vs⟩ := p
      obtain ⟨e, b1, b2, b3⟩ := hz 0 (ip, vs) (i, xs) rfl rfl
      simp only at e b1 b2 b3
      subst e
      simp only [fillParts] at hf ⊢
      cases hp : place i with
      | none => rw [hp] at hf; cases hf
      | some os =>
        obtain ⟨off, size⟩ := os
        rw [hp] at hf
        simp only at hf ⊢
        split at hf
        · next hc =>
          rw [if_pos (by rw [rels_length b1, rels_length h1]; exact hc)]
          have hs : ∀ (ys : List (SC Gh)) (l : List (SC Gh)) (off : Nat), (∀ x ∈ l, scHolds w n0 x) → footL (l.map SC.cell) = [] → (∀ x ∈ ys, scHolds w n0 x) → footL (ys.map SC.cell) = [] → (∀ x ∈ setRun l off ys, scHolds w n0 x) ∧ footL ((setRun l off ys).map SC.cell) = [] := by
            intro ys
            induction ys with
            | nil => intro l off q1 q2 _ _; exact ⟨q1, q2⟩
            | cons y ys ih =>
              intro l off q1 q2 q3 q4
              simp only [List.map_cons, footL, List.append_eq_nil_iff] at q4
              refine ih (l.set off y) (off + 1) ?_ ?_ (fun x hx => q3 x (by simp [hx])) q4.2
              · intro x hx
                rcases List.mem_or_eq_of_mem_set hx with hx | hx
                · exact q1 x hx
                · subst hx; exact q3 x (by simp)
              · rw [List.eq_nil_iff_forall_not_mem]
                intro b hb
                obtain ⟨c, hc, hbc⟩ := mem_footL.1 hb
                obtain ⟨x, hx, rfl⟩ := List.mem_map.1 hc
                rcases List.mem_or_eq_of_mem_set hx with hx | hx
                · have : b ∈ footL (l.map SC.cell) := mem_footL.2 ⟨x.cell, List.mem_map.2 ⟨x, hx, rfl⟩, hbc⟩
                  rw [q2] at this; simp at this
                · subst hx; rw [q4.1] at hbc; simp at hbc
          obtain ⟨s1, s2⟩ := hs xs l off h2 h3 b2 b3
          exact fill_rels zs pvs (setRun l off xs) r (setRun us off vs) (by simpa using hl) (fun k p z hp hz' => hz (k + 1) p z (by simpa using hp) (by simpa using hz')) (rels_setRun b1 h1 off) s1 s2 hf
        · cases hf

theorem placesOk {P : Program} : ∀ (fs : List Field), (fs.all fun f => (P.info? f.type).isSome) = true → fs.mapM (fun f => (P.info? f.type).map fun i => (f.offset, i.size)) = some (fs.map fun f => (f.offset, P.cellsOf f.type))
  | [], _ => rfl
  | f :: fs, h => by
    simp only [List.all_cons, Bool.and_eq_true] at h
    cases hi : P.info? f.type with
    | none => rw [hi] at h; simp at h
    | some i =>
      rw [List.mapM_cons, placesOk fs h.2]
      simp [hi, Program.cellsOf]

theorem build_ok {w0 : W0} {w : World} {Γ : St Gh} {tm : Array Value} (h : Inv w0 Γ [] tm w) {P : Program} {Ω : Orc Gh} (hn : Ω.nil = gnil) {t ty : Nat} {parts : Array (Nat × Operand)} {ef : Eff Gh} (ht : t < tm.size) (he : effBuild P Ω Γ t ty parts.toList = some ef) :
    ∃ v, (Instr.build ty (parts.map fun (i, x) => (i, ev tm x))).run P w = .ok v w ∧ Inv w0 (Γ.app ef) [] (tm.setIfInBounds t v) w := by
  unfold effBuild at he
  split at he
  · next hio =>
    split at he
    · next z ps hz hps =>
      split at he
      · next l hl =>
        simp only [Option.some.injEq] at he
        subst he
        rw [hn] at hz
        obtain ⟨it, zv, z1, z2, z3, z4, z5, z6⟩ := zeroCells_ok hz w w0.zn
        obtain ⟨pvs, a1, a2, a3, a4⟩ := parts_see h hn parts.toList ps hps
        obtain ⟨us', b1, b2, b3, b4⟩ := fill_rels (w := w) (n0 := w0.zn) (Γ := Γ) (place := fieldPl P ty) (seeParts ps) pvs (z.map SC.c) l (z.map Cell.val) a4 a3 (rels_cells z)
          (by intro x hx; obtain ⟨c, hc, rfl⟩ := List.mem_map.1 hx; exact holdsL_iff.1 z3 c hc) (by simpa [List.map_map, Function.comp_def, SC.cell] using z4) hl
        have hfill := fill_ok (fieldPl P ty) pvs (parts.map fun (i, x) => (i, ev tm x)).toList (z.map Cell.val) us' b1 (by simp [a1]) (by
          intro k p v hp hv
          have hv' : (parts.toList.map fun (x : Nat × Operand) => (x.1, ev tm x.2))[k]? = some v := by simpa using hv
          rw [List.getElem?_map] at hv'
          cases hx : parts.toList[k]? with
          | none => rw [hx] at hv'; cases hv'
          | some x =>
            rw [hx] at hv'
            simp only [Option.map_some, Option.some.injEq] at hv'
            subst hv'
            obtain ⟨c1, c2⟩ := a2 k p x hp hx
            exact ⟨c1.symm, c2⟩)
        refine ⟨.agg us'.toArray, ?_, ?_⟩
        · refine run_build w ty _ us'.toArray ?_
          unfold Program.built
          rw [z1]
          unfold infosOk at hio
          cases hu : P.underlying ty with
          | none => rw [hu] at hio; simp at hio
          | some d =>
            have hplace : fieldPl P ty = fieldPl P ty := rfl
            rw [z6, Array.toArray_toList] at hfill
            rw [hu] at hio
            cases d with
            | struct fs =>
              simp only [z2]
              rw [placesOk fs.toList hio]
              simp only
              rw [← hfill]
              congr 1
              funext i
              simp only [fieldPl, hu]
              simp only [List.getElem?_toArray, List.getElem?_map, Array.getElem?_toList]
              cases fs[i]? <;> rfl
            | array n e =>
              simp only [z2]
              cases hie : P.info? e with
              | none => simp [hie] at hio
              | some ie =>
                simp only
                rw [← hfill]
                congr 1
                funext i
                simp [fieldPl, hu, Program.cellsOf, hie]
            | _ => simp at hio
        · exact done_view h ht ⟨us', b2, rfl⟩ b3 b4
      · cases he
    · cases he
  · cases he

/-- The parts of a slice's build: each is taken. -/
theorem takeParts_ok {w0 : W0} {w : World} {Γ : St Gh} {tm : Array Value} (h0 : Inv w0 Γ [] tm w) {P : Program} {Ω : Orc Gh} (hn : Ω.nil = gnil) {ty : Nat → TypeId} : ∀ (parts : List (Nat × Operand)) (ps : List (Nat × Option Nat × List (SC Gh))) (pool : List GC) (d d' : Pend Gh) (l : List (Nat × List GC)),
    partsOf P Ω Γ ty parts = some ps → Inv w0 (Γ.pend d) pool tm w → Back Γ (Γ.pend d) → takeParts Γ d ps = some (l, d') →
    Inv w0 (Γ.pend d') ((l.flatMap (·.2)) ++ pool) tm w ∧ l.length = parts.length ∧
      (∀ (k : Nat) (p : Nat × List GC) (x : Nat × Operand), l[k]? = some p → parts[k]? = some x → p.1 = x.1 ∧ (ev tm x.2).cells.toList = p.2.map Cell.val)
  | [], ps, pool, d, d', l, hp, h, _, ht => by
    simp only [partsOf, Option.some.injEq] at hp
    subst hp
    simp only [takeParts, Option.some.injEq, Prod.mk.injEq] at ht
    obtain ⟨rfl, rfl⟩ := ht
    exact ⟨h, rfl, by simp⟩
  | (i, x) :: parts, ps, pool, d, d', l, hp, h, hb, ht => by
    simp only [partsOf] at hp
    split at hp
    · next v l0 hv hl =>
      split at hp
      · next hok =>
        simp only [Option.some.injEq] at hp
        subst hp
        simp only [takeParts] at ht
        split at ht
        · next ys d1 h1 =>
          split at ht
          · next l2 d2 h2 =>
            simp only [Option.some.injEq, Prod.mk.injEq] at ht
            obtain ⟨rfl, rfl⟩ := ht
            obtain ⟨⟨us, u1, u2⟩, u3⟩ := opd_ok h0 hn hv
            obtain ⟨a1, a2, a3, a4⟩ := takeFrom_ok hn h0 hv u1 h hb h1
            obtain ⟨b1, b2, b3⟩ := takeParts_ok h0 hn parts l0 (ys ++ pool) d1 d2 l2 hl a1 a2 h2
            refine ⟨b1.permL ?_, by simp [b2], ?_⟩
            · simp only [List.flatMap_cons]
              rw [← List.append_assoc]
              exact List.Perm.append_right _ List.perm_append_comm
            · intro k p y hp hy
              cases k with
              | zero =>
                simp at hp hy
                subst hp; subst hy
                exact ⟨rfl, by rw [u2, okPart_cells hok u1 u3, a3]⟩
              | succ k => exact b3 k p y (by simpa using hp) (by simpa using hy)
          · cases ht
        · cases ht
      · cases hp
    · cases hp
end Go.Proofs.Ytnmocjhpbobahaa.L
namespace Go.Proofs.Ytnmocjhpbobahaa.L
open Go Go.RowKit

theorem setRun_foot : ∀ (xs l : List GC) (off : Nat), off + xs.length ≤ l.length → ∃ D, (footL (setRun l off xs) ++ D).Perm (footL l ++ footL xs)
  | [], l, off, _ => ⟨[], by simp [setRun, footL]⟩
  | x :: xs, l, off, h => by
    simp only [List.length_cons] at h
    have ho : off < l.length := by omega
    obtain ⟨D, hD⟩ := setRun_foot xs (l.set off x) (off + 1) (by simp; omega)
    have h1 := footL_set l off l[off] x (List.getElem?_eq_getElem ho)
    refine ⟨D ++ foot l[off], ?_⟩
    simp only [setRun, footL]
    rw [← List.append_assoc]
    refine (List.Perm.append_right _ hD).trans ?_
    have e1 : (footL (l.set off x) ++ footL xs ++ foot l[off]).Perm ((footL (l.set off x) ++ foot l[off]) ++ footL xs) := by
      rw [List.append_assoc, List.append_assoc]; exact List.Perm.append_left _ List.perm_append_comm
    refine e1.trans ((List.Perm.append_right _ h1).trans ?_)
    rw [List.append_assoc]
theorem setRun_mem {β : Type} : ∀ (xs l : List β) (off : Nat) (y : β), y ∈ setRun l off xs → y ∈ l ∨ y ∈ xs
  | [], l, off, y, h => .inl h
  | x :: xs, l, off, y, h => by
    simp only [setRun] at h
    rcases setRun_mem xs _ _ y h with h | h
    · rcases List.mem_or_eq_of_mem_set h with h | h
      · exact .inl h
      · exact .inr (by simp [h])
    · exact .inr (by simp [h])
theorem fillParts_foot {place : Nat → Option (Nat × Nat)} : ∀ (ps : List (Nat × List GC)) (l r : List GC), fillParts place l ps = some r → (∃ D, (footL r ++ D).Perm (footL l ++ footL (ps.flatMap (·.2)))) ∧ (∀ y ∈ r, y ∈ l ∨ y ∈ ps.flatMap (·.2)) ∧ r.length = l.length
  | [], l, r, h => by
    simp only [fillParts, Option.some.injEq] at h
    subst h
    exact ⟨⟨[], by simp [footL]⟩, fun y hy => .inl hy, rfl⟩
  | (i, xs) :: ps, l, r, h => by
    simp only [fillParts] at h
    cases hp : place i with
    | none => rw [hp] at h; cases h
    | some os =>
      obtain ⟨off, size⟩ := os
      rw [hp] at h
      simp only at h
      split at h
      · next hc =>
        obtain ⟨⟨D, hD⟩, hm, hl⟩ := fillParts_foot ps _ r h
        obtain ⟨D2, hD2⟩ := setRun_foot xs l off (by have := hc.1; have := hc.2; omega)
        refine ⟨⟨D ++ D2, ?_⟩, ?_, by rw [hl, setRun_length]⟩
        · simp only [List.flatMap_cons, footL_append]
          rw [← List.append_assoc]
          refine (List.Perm.append_right _ hD).trans ?_
          have e1 : (footL (setRun l off xs) ++ footL (ps.flatMap (·.2)) ++ D2).Perm ((footL (setRun l off xs) ++ D2) ++ footL (ps.flatMap (·.2))) := by
            rw [List.append_assoc, List.append_assoc]; exact List.Perm.append_left _ List.perm_append_comm
          refine e1.trans ((List.Perm.append_right _ hD2).trans ?_)
          rw [List.append_assoc]
        · intro y hy
          simp only [List.flatMap_cons, List.mem_append]
          rcases hm y hy with hy | hy
          · rcases setRun_mem _ _ _ _ hy with hy | hy
            · exact .inl hy
            · exact .inr (.inl hy)
          · exact .inr (.inr hy)
      · cases h
theorem replicate_zero {w : World} {n : Nat} {n0 : Zn} {z : List GC} (h1 : holdsL w n0 z) (h2 : footL z = []) : holdsL w n0 (List.replicate n z).flatten ∧ footL (List.replicate n z).flatten = [] := by
  induction n with
  | zero => exact ⟨trivial, rfl⟩
  | succ n ih =>
    rw [List.replicate_succ, List.flatten_cons]
    refine ⟨?_, by rw [footL_append, h2, ih.2]; rfl⟩
    rw [holdsL_iff] at h1 ih ⊢
    intro c hc
    rcases List.mem_append.1 hc with hc | hc
    · exact h1 c hc
    · exact ih.1 c hc
theorem flat_length {β : Type} (n : Nat) (z : List β) : (List.replicate n z).flatten.length = n * z.length := by simp
theorem made_list (z : Array Value) (n : Nat) : (madeCells z (n * z.size)).toList = (List.replicate n z.toList).flatten := by
  unfold madeCells
  simp only [Array.toList_map, Array.toList_range]
  induction n with
  | zero => simp
  | succ n ih =>
    rw [List.replicate_succ', List.flatten_append, Nat.succ_mul, List.range_add, List.map_append, ih]
    congr 1
    simp only [List.flatten_cons, List.flatten_nil, List.append_nil, List.map_map]
    apply List.ext_getElem
    · simp
    · intro i h1 h2
      simp at h1
      simp [Function.comp, Nat.add_mod, Nat.mod_eq_of_lt h1, h1]

theorem cellsOf_info {P : Program} {e : TypeId} (h : 0 < P.cellsOf e) : ∃ i, P.info? e = some i ∧ i.size = P.cellsOf e := by
  unfold Program.cellsOf at h ⊢
  cases hi : P.info? e with
  | none => rw [hi] at h; simp at h
  | some i => exact ⟨i, rfl, by simp⟩

theorem buildSlice_ok {w0 : W0} {w : World} {Γ : St Gh} {tm : Array Value} (h : Inv w0 Γ [] tm w) {P : Program} {t ty len : Nat} {parts : Array (Nat × Operand)} {ef : Eff Gh} (ht : t < tm.size)
    (he : effBuildSlice P (goodΩ ⟨some ⟨w.heap.size, 0, none⟩, len⟩) Γ t ty len parts.toList = some ef) :
    ∃ v w', (Instr.buildSlice ty len (parts.map fun (i, x) => (i, ev tm x))).run P w = .ok v w' ∧ Inv w0 (Γ.app ef) [] (tm.setIfInBounds t v) w' := by
  unfold effBuildSlice at he
  cases hu : P.underlying ty with
  | none => rw [hu] at he; simp at he
  | some d =>
  rw [hu] at he
  cases d with
  | slice e =>
    simp only at he
    split at he
    · next hc =>
      split at he
      · next z ps hz hps =>
        split at he
        · next l d hl =>
          split at he
          · next row hrow =>
            split at he
            · next hzl =>
              simp only [Option.some.injEq] at he
              subst he
              obtain ⟨it, zv, z1, z2, z3, z4, z5, z6⟩ := zeroCells_ok hz w w0.zn
              obtain ⟨a1, a2, a3⟩ := takeParts_ok h rfl parts.toList ps [] pend0 d l hps (h.congr (pend0_get Γ)) (fun r q z hz ho => ⟨z, by rw [pend0_get] at hz; exact hz, rfl⟩) hl
              obtain ⟨⟨D, f1⟩, f2, f3⟩ := fillParts_foot l _ row hrow
              obtain ⟨r1, r2⟩ := replicate_zero (n := len) z3 z4
              have hsz : it.size = P.cellsOf e := by simp [Program.cellsOf, z1]
              have hzs : zv.cells.size = P.cellsOf e := by rw [← Array.length_toList, ← z6, List.length_map, hzl]
              have hrl : row.length = len * P.cellsOf e := by rw [f3, flat_length, hzl]
              have hrh : holdsL w w0.zn row := by
                have hp := a1.pool
                rw [holdsL_iff] at hp r1 ⊢
                intro y hy
                rcases f2 y hy with hy | hy
                · exact r1 y hy
                · exact hp y (by simp [hy])
              have hI : Inv w0 (Γ.pend d) row tm w := a1.sub ⟨D, by rw [r2, List.nil_append] at f1; simpa using f1⟩ hrh
              have hmap := fillParts_map Cell.val (fieldPl P ty) l (List.replicate len z).flatten
              rw [hrow] at hmap
              simp only [Option.map_some] at hmap
              have hfill := fill_ok (fieldPl P ty) _ (parts.map fun (i, x) => (i, ev tm x)).toList _ _ hmap (by simp [a2]) (by
                intro k p v hp hv
                rw [List.getElem?_map] at hp
                have hv' : (parts.toList.map fun (x : Nat × Operand) => (x.1, ev tm x.2))[k]? = some v := by simpa using hv
                rw [List.getElem?_map] at hv'
                cases hx : parts.toList[k]? with
                | none => rw [hx] at hv'; cases hv'
                | some x =>
                  rw [hx] at hv'
                  simp only [Option.map_some, Option.some.injEq] at hv'
                  subst hv'
                  cases hy : l[k]? with
                  | none => rw [hy] at hp; cases hp
                  | some y =>
                    rw [hy] at hp
                    simp only [Option.map_some, Option.some.injEq] at hp
                    subst hp
                    obtain ⟨c1, c2⟩ := a3 k y x hy hx
                    exact ⟨c1.symm, c2⟩)
              refine ⟨.slice (some ⟨w.heap.size, 0, none⟩) len len, w.alloc (.cells (row.map Cell.val).toArray e), ?_, ?_⟩
              · have hcells : (if len * it.size = 0 then (#[] : Array Value) else zv.cells) = zv.cells ∨ len * it.size = 0 := by
                  by_cases h0 : len * it.size = 0
                  · exact .inr h0
                  · exact .inl (if_neg h0)
                have hlist : ((List.replicate len z).flatten.map Cell.val).toArray = (Array.range (len * it.size)).map (fun j => zv.cells[j % zv.cells.size]!) := by
                  apply Array.ext'
                  have := made_list zv.cells len
                  unfold madeCells at this
                  rw [hzs] at this
                  rw [hsz, hzs, this, List.map_flatten, List.map_replicate, z6]
                rw [hlist] at hfill
                have hplace : (fun i => some (i * it.size, it.size)) = fieldPl P ty := by funext i; simp [fieldPl, hu, hsz]
                have h24 : ¬ (len * it.size > 2 ^ 24) := by rw [hsz]; have := hc.1; omega
                by_cases h0 : len * it.size = 0
                · have hlen0 : len = 0 := by
                    rcases Nat.mul_eq_zero.1 h0 with h0 | h0
                    · exact h0
                    · have := hc.2; omega
                  subst hlen0
                  have e0 : Array.range 0 = #[] := rfl
                  simp only [Nat.zero_mul, e0, Array.map_empty] at hfill
                  have e1 : (parts.map fun (i, x) => (i, ev tm x)).toList = List.map (fun x => (x.fst, ev tm x.snd)) parts.toList := by simp
                  rw [e1] at hfill
                  simp [Instr.buildSlice, run_underlying hu, sizeOf, typeInfo, z1, hplace, newRow, e0]
                  rw [hfill]
                  simp
                · simp only [Instr.buildSlice, Sem.run_bind, run_underlying hu, Result.andThen_ok, sizeOf, typeInfo, run_program, z1, Sem.run_pure, Sem.run_map, zeroValue, z2, h24, if_false, h0, hplace, hfill]
                  simp [z1, z2, newRow, hfill]
              · rw [app_fin]
                have hf := Inv.fresh (ys := row) (xs := []) (row := row) (cs := (row.map Cell.val).toArray) (e := e) (by simpa using hI) (List.Perm.refl _) hrh
                  (fun i c hc' => cells_of_vals rfl i c hc') (c := .sl true (P.cellsOf e) ⟨some ⟨w.heap.size, 0, none⟩, len⟩ row)
                  (.inr ⟨_, _, rfl, hc.2, by rw [hrl]; exact Nat.mul_mod_left _ _, by rw [hrl, Nat.mul_div_cancel _ hc.2]; exact Nat.le_refl _, by simp [hrl]⟩)
                have hd1 := done_one hf ht
                have : Cell.val (.sl true (P.cellsOf e) ⟨some ⟨w.heap.size, 0, none⟩, len⟩ row) = .slice (some ⟨w.heap.size, 0, none⟩) len len := by
                  simp only [Cell.val]; rw [hrl, Nat.mul_div_cancel _ hc.2]
                rw [this] at hd1
                exact hd1
            · cases he
          · cases he
        · cases he
      · cases he
    · cases he
  | _ => simp at he

theorem make_ok {w0 : W0} {w : World} {Γ : St Gh} {tm : Array Value} (h : Inv w0 Γ [] tm w) {P : Program} {t ty c : Nat} {x y : Operand} {ef : Eff Gh} (ht : t < tm.size) (hcap : natOf? Γ y = some c)
    (he : effMake P (goodΩ ⟨some ⟨w.heap.size, 0, none⟩, c⟩) Γ t ty x y = some ef) :
    ∃ v w', (Instr.makeSlice ty (ev tm x) (ev tm y)).run P w = .ok v w' ∧ Inv w0 (Γ.app ef) [] (tm.setIfInBounds t v) w' := by
  unfold effMake at he
  rw [hcap] at he
  cases hu : P.underlying ty with
  | none => rw [hu] at he; simp at he
  | some d =>
  rw [hu] at he
  cases d with
  | slice e =>
    cases hx : natOf? Γ x with
    | none => rw [hx] at he; simp at he
    | some n =>
      rw [hx] at he
      simp only at he
      split at he
      · next z hz =>
        split at he
        · next hc =>
          simp only [Option.some.injEq] at he
          subst he
          obtain ⟨c1, c2, c3, c4, c5⟩ := hc
          obtain ⟨it, zv, z1, z2, z3, z4, z5, z6⟩ := zeroCells_ok hz w w0.zn
          obtain ⟨kx, hkx⟩ := natOf_ok h hx
          obtain ⟨ky, hky⟩ := natOf_ok h hcap
          have hsz : it.size = P.cellsOf e := by simp [Program.cellsOf, z1]
          have hby : it.bytes = P.bytesOf e := by simp [Program.bytesOf, z1]
          have hzs : zv.cells.size = P.cellsOf e := by rw [← Array.length_toList, ← z6, List.length_map, c1]
          have hbytes : (it.bytes : Int) * (c : Int) ≤ 281474976710656 := by
            rw [hby]
            have h2 : ((P.bytesOf e * c : Nat) : Int) ≤ 281474976710656 := by omega
            simpa using h2
          have hr := run_make (P := P) w ty e it zv hu z1 z2 kx ky (n : Int) (c : Int) (by omega) (by omega) hbytes (by omega)
          simp only [Int.toNat_natCast] at hr
          refine ⟨_, _, by rw [hkx, hky]; exact hr, ?_⟩
          rw [app_put]
          obtain ⟨r1, r2⟩ := replicate_zero (n := n) z3 z4
          have hrl : (List.replicate n z).flatten.length = n * P.cellsOf e := by rw [flat_length, c1]
          have hmade : (madeCells zv.cells (c * it.size)).toList = (List.replicate c zv.cells.toList).flatten := by rw [hsz, ← hzs]; exact made_list _ _
          have hf := Inv.fresh (ys := []) (xs := []) (row := (List.replicate n z).flatten) (cs := madeCells zv.cells (c * it.size)) (e := e) (by simpa using h) (by rw [r2]; exact List.Perm.refl _) r1
            (fun i cc hc' => by
              refine ⟨cc.val, ?_, .inr rfl⟩
              rw [← Array.getElem?_toList, hmade]
              have hvl : ((List.replicate n z).flatten.map Cell.val)[i]? = some cc.val := by rw [List.getElem?_map, hc']; rfl
              rw [List.map_flatten, List.map_replicate, z6] at hvl
              have hcn : c = n + (c - n) := by omega
              rw [hcn, ← List.replicate_append_replicate, List.flatten_append]
              rw [List.getElem?_append_left]
              · exact hvl
              · exact (List.getElem?_eq_some_iff.1 hvl).1)
            (c := .sl true (P.cellsOf e) ⟨some ⟨w.heap.size, 0, none⟩, c⟩ (List.replicate n z).flatten)
            (.inr ⟨_, _, rfl, c2, by rw [hrl]; exact Nat.mul_mod_left _ _, by rw [hrl, Nat.mul_div_cancel _ c2]; exact c3, by rw [size_madeCells, hsz]; exact Nat.le_refl _⟩)
          have hd1 := done_one (kill_nil hf) ht
          have : Cell.val (.sl true (P.cellsOf e) ⟨some ⟨w.heap.size, 0, none⟩, c⟩ (List.replicate n z).flatten) = .slice (some ⟨w.heap.size, 0, none⟩) n c := by
            simp only [Cell.val]; rw [hrl, Nat.mul_div_cancel _ c2]
          rw [this] at hd1
          exact hd1
        · cases he
      · cases he
  | _ => simp at he
end Go.Proofs.Ytnmocjhpbobahaa.L
namespace Go.Proofs.Ytnmocjhpbobahaa.L
open Go Go.RowKit

theorem add_add {a : Addr} (h : a.spot = none) (m n : Nat) : (a.add m).add n = a.add (m + n) := by
  unfold Addr.add
  by_cases hm : m = 0
  · subst hm; simp
  · by_cases hn : n = 0
    · subst hn; simp [hm]
    · simp [hm, hn, Nat.add_assoc]
theorem add_zero (a : Addr) : a.add 0 = a := by simp [Addr.add]
theorem add_spot {a : Addr} (h : a.spot = none) (n : Nat) : (a.add n).spot = none := by unfold Addr.add; split <;> simp_all
theorem add_block (a : Addr) (n : Nat) : (a.add n).block = a.block := by unfold Addr.add; split <;> rfl
theorem add_off (a : Addr) (n : Nat) : (a.add n).off = a.off + n := by unfold Addr.add; split <;> simp_all

theorem own_addr {w : World} {n0 : Zn} {y : GC} (h : holds w n0 y) (ho : y.isOwn = true) {a : Addr} (ha : y.gh.a = some a) : a.spot = none := (own_base h ho ha).1

/-- What an address operand tells. -/
def AdOk (w : World) (n0 : Zn) (Γ : St Gh) (v : Value) : Ad Gh → Prop
  | .own r p off => ∃ y a, (Γ.get r).getP p = some y ∧ y.isOwn = true ∧ y.gh.a = some a ∧ v = .pointer (some (a.add off))
  | .frz g row off => ∃ a, g.a = some a ∧ v = .pointer (some (a.add off)) ∧ holds w n0 (.bx false g row)
theorem one_val {Γ : St Gh} {v : SV Gh} {x : SC Gh} {u : Value} (hk : v.k = .one) (hc : v.cs = [x]) (h : svRel Γ v u) : scRel Γ x u := by
  obtain ⟨vs, h1, h2⟩ := h
  rw [hc] at h1
  cases vs with
  | nil => simp [rels] at h1
  | cons a vs => cases vs with
    | nil => rw [h2, hk]; exact h1.1
    | cons b vs => simp [rels] at h1
theorem adOf_ok {w0 : W0} {w : World} {Γ : St Gh} {xs : List GC} {tm : Array Value} (h : Inv w0 Γ xs tm w) {x : Operand} {ad : Ad Gh} (hx : adOf Γ x = some ad) : AdOk w w0.zn Γ (ev tm x) ad := by
  cases x with
  | tmp s =>
    simp only [adOf] at hx
    split at hx
    · next hk =>
      split at hx
      · next g row hc =>
        simp only [Option.some.injEq] at hx
        subst hx
        have hr := one_val hk hc (h.rel s)
        have hh : holds w w0.zn (.bx true g row) := h.hold s (.c (.bx true g row)) (by rw [hc]; simp)
        have hsome := hh.1.1
        obtain ⟨a, ha, _⟩ := hsome
        refine ⟨.bx true g row, a, by simp [SV.getP, hc, Cell.getC], rfl, ha, ?_⟩
        rcases hr with hr | hr
        · cases hr
        · show tm.getD s undef = _
          rw [hr, add_zero, ← ha]; rfl
      · next g row hc =>
        simp only [Option.some.injEq] at hx
        subst hx
        have hr := one_val hk hc (h.rel s)
        have hh : holds w w0.zn (.bx false g row) := h.hold s (.c (.bx false g row)) (by rw [hc]; simp)
        have hsome := hh.1.1
        obtain ⟨a, ha, _⟩ := hsome
        refine ⟨a, ha, ?_, hh⟩
        rcases hr with hr | hr
        · cases hr
        · show tm.getD s undef = _
          rw [hr, add_zero, ← ha]; rfl
      · next r p hc =>
        split at hx
        · next g row hg =>
          simp only [Option.some.injEq] at hx
          subst hx
          obtain ⟨y, hy, ho, hv⟩ := one_val hk hc (h.rel s)
          rw [hg] at hy
          cases hy
          have hh := h.cell hg
          have hsome := hh.1.1
          obtain ⟨a, ha, _⟩ := hsome
          refine ⟨_, a, hg, rfl, ha, ?_⟩
          show tm.getD s undef = _
          rw [hv, add_zero, ← ha]; rfl
        · cases hx
      · next r p off hc =>
        simp only [Option.some.injEq] at hx
        subst hx
        obtain ⟨y, hy, ho, a, ha, hv⟩ := one_val hk hc (h.rel s)
        exact ⟨y, a, hy, ho, ha, hv⟩
      · next g row off hc =>
        simp only [Option.some.injEq] at hx
        subst hx
        obtain ⟨a, ha, hv⟩ := one_val hk hc (h.rel s)
        exact ⟨a, ha, hv, h.hold s (.fref g row off) (by rw [hc]; simp)⟩
      · cases hx
    · cases hx
  | _ => simp [adOf] at hx

/-- What a slice operand tells. -/
def SdOk (w : World) (n0 : Zn) (Γ : St Gh) (v : Value) : SD Gh → Prop
  | .own r p sz lo n whole full row => ∃ g yrow, (Γ.get r).getP p = some (.sl true sz g yrow) ∧ holds w n0 (.sl true sz g yrow) ∧ lo + n ≤ yrow.length ∧ row = (yrow.drop lo).take n ∧ lo % sz = 0 ∧ n % sz = 0 ∧
      (whole = true → lo = 0 ∧ n = yrow.length ∧ v = .slice g.a (n / sz) g.cap) ∧ Win g sz lo n full v
  | .frz sz g row => v = .slice g.a (row.length / sz) g.cap ∧ holds w n0 (.sl false sz g row)
theorem map_add_zero (a : Option Addr) : a.map (·.add 0) = a := by cases a <;> simp [add_zero]
theorem whole_win {w : World} {sz : Nat} {n0 : Zn} {g : Gh} {row : List GC} (h : holds w n0 (.sl true sz g row)) : Win g sz 0 row.length false (.slice g.a (row.length / sz) g.cap) :=
  ⟨g.a, g.cap, rfl, h.1.2.2.1, by simp, by simp, .inl (map_add_zero _).symm⟩
theorem sdOf_ok {w0 : W0} {w : World} {Γ : St Gh} {xs : List GC} {tm : Array Value} (h : Inv w0 Γ xs tm w) {x : Operand} {d : SD Gh} (hx : sdOf Γ x = some d) : SdOk w w0.zn Γ (ev tm x) d := by
  cases x with
  | tmp s =>
    simp only [sdOf] at hx
    split at hx
    · next hk =>
      split at hx
      · next sz g row hc =>
        simp only [Option.some.injEq] at hx
        subst hx
        have hr := one_val hk hc (h.rel s)
        have hh : holds w w0.zn (.sl true sz g row) := h.hold s (.c (.sl true sz g row)) (by rw [hc]; simp)
        have hv : ev tm (.tmp s) = .slice g.a (row.length / sz) g.cap := by
          rcases hr with hr | hr
          · cases hr
          · exact hr
        exact ⟨g, row, by simp [SV.getP, hc, Cell.getC], hh, by simp, by simp, by simp, hh.1.2.1, fun _ => ⟨rfl, rfl, hv⟩, by rw [hv]; exact whole_win hh⟩
      · next sz g row hc =>
        simp only [Option.some.injEq] at hx
        subst hx
        have hr := one_val hk hc (h.rel s)
        have hh : holds w w0.zn (.sl false sz g row) := h.hold s (.c (.sl false sz g row)) (by rw [hc]; simp)
        rcases hr with hr | hr
        · cases hr
        · exact ⟨hr, hh⟩
      · next r p hc =>
        split at hx
        · next sz g row hg =>
          simp only [Option.some.injEq] at hx
          subst hx
          obtain ⟨y, hy, ho, hv⟩ := one_val hk hc (h.rel s)
          rw [hg] at hy
          cases hy
          have hh := h.cell hg
          have hv' : ev tm (.tmp s) = .slice g.a (row.length / sz) g.cap := hv
          exact ⟨g, row, hg, hh, by simp, by simp, by simp, hh.1.2.1, fun _ => ⟨rfl, rfl, hv'⟩, by rw [hv']; exact whole_win hh⟩
        · cases hx
      · next r p lo n full hc =>
        split at hx
        · next sz g row hg =>
          split at hx
          · next hl =>
            simp only [Option.some.injEq] at hx
            subst hx
            obtain ⟨y, hy, sz', g', len, e, h2, h3, h4, h5⟩ := one_val hk hc (h.rel s)
            rw [hg] at hy
            cases hy
            simp only [Cell.head, Prod.mk.injEq, true_and] at e
            obtain ⟨rfl, rfl, rfl⟩ := e
            exact ⟨g, row, hg, h.cell hg, hl, rfl, h3, h4, by simp, h5⟩
          · cases hx
        · cases hx
      · cases hx
    · cases hx
  | _ => simp [sdOf] at hx

theorem getC_snoc : ∀ (p : List Nat) (c d : GC) (i : Nat) (x : GC), c.getC p = some d → d.isOwn = true → d.row[i]? = some x → c.getC (p ++ [i]) = some x
  | [], c, d, i, x, h, ho, hx => by
    simp only [Cell.getC, Option.some.injEq] at h
    subst h
    rw [List.nil_append, getC_cons_eq ho hx]; rfl
  | j :: q, c, d, i, x, h, ho, hx => by
    obtain ⟨hco, e, he, hd⟩ := getC_cons h
    rw [List.cons_append, getC_cons_eq hco he]
    exact getC_snoc q e d i x hd ho hx
theorem getP_snoc {v : SV Gh} {p : List Nat} {d x : GC} {i : Nat} (h : v.getP p = some d) (ho : d.isOwn = true) (hx : d.row[i]? = some x) : v.getP (p ++ [i]) = some x := by
  cases p with
  | nil => simp [SV.getP] at h
  | cons j q =>
    obtain ⟨y, hy, hd⟩ := getP_cell h
    simp only [List.cons_append, SV.getP, hy]
    exact getC_snoc q y d i x hd ho hx

theorem seen_ok {w : World} {n0 : Zn} {Γ : St Gh} {r : Nat} {p : List Nat} {d : GC} (hd : (Γ.get r).getP p = some d) (ho : d.isOwn = true) (hh : holds w n0 d) : ∀ (l : List GC) (off : Nat) (ls : List (SC Gh)),
    (∀ k x, l[k]? = some x → d.row[off + k]? = some x) → seen r p off l = some ls → rels Γ ls (l.map Cell.val) ∧ (∀ x ∈ ls, scHolds w n0 x) ∧ footL (ls.map SC.cell) = [] ∧ (∀ x ∈ l, x.isDead = false)
  | [], off, ls, _, h => by
    simp only [seen, Option.some.injEq] at h
    subst h
    exact ⟨trivial, by simp, rfl, by simp⟩
  | x :: l, off, ls, hl, h => by
    simp only [seen] at h
    split at h
    · next y ys h1 h2 =>
      simp only [Option.some.injEq] at h
      subst h
      obtain ⟨a1, a2, a3, a4⟩ := seen_ok hd ho hh l (off + 1) ys (fun k z hz => by have := hl (k + 1) z (by simpa using hz); rwa [show off + 1 + k = off + (k + 1) by omega]) h2
      have hx0 : d.row[off]? = some x := by simpa using hl 0 x rfl
      have hxh : holds w n0 x := holdsL_get (holds_row hh) hx0
      split at h1
      · next hxo =>
        simp only [Option.some.injEq] at h1
        subst h1
        refine ⟨⟨⟨x, getP_snoc hd ho hx0, hxo, rfl⟩, a1⟩, ?_, ?_, ?_⟩
        · intro z hz
          rcases List.mem_cons.1 hz with rfl | hz
          · trivial
          · exact a2 z hz
        · simpa [SC.cell, footL, foot] using a3
        · intro z hz
          rcases List.mem_cons.1 hz with rfl | hz
          · exact isDead_own hxo
          · exact a4 z hz
      · split at h1
        · next hxc =>
          simp only [Option.some.injEq] at h1
          subst h1
          refine ⟨⟨.inr rfl, a1⟩, ?_, ?_, ?_⟩
          · intro z hz
            rcases List.mem_cons.1 hz with rfl | hz
            · exact hxh
            · exact a2 z hz
          · simp only [List.map_cons, SC.cell, footL, foot_copyable hxc hxh, List.nil_append]; exact a3
          · intro z hz
            rcases List.mem_cons.1 hz with rfl | hz
            · exact copyable_dead hxc
            · exact a4 z hz
        · cases h1
    · cases h

theorem run_isAgg {P : Program} {ty : TypeId} {d : TypeDesc} (hu : P.underlying ty = some d) (w : World) : (isAgg ty).run P w = .ok (isAggB P ty) w := by
  unfold isAgg isAggB
  rw [hu]
  cases d <;> simp [run_underlying hu]
theorem info_of_underlying {P : Program} {ty : TypeId} {d : TypeDesc} (hu : P.underlying ty = some d) : ∃ i, P.info? ty = some i ∧ i.size = P.cellsOf ty := by
  unfold Program.underlying at hu
  cases hi : P.info? ty with
  | none => rw [hi] at hu; simp at hu
  | some i => exact ⟨i, rfl, by simp [Program.cellsOf, hi]⟩
theorem run_sizeOf {P : Program} {ty : TypeId} {i : TypeInfo} (hi : P.info? ty = some i) (w : World) : (sizeOf ty).run P w = .ok (P.cellsOf ty) w := by
  simp [sizeOf, typeInfo, hi, Program.cellsOf]

/-- Loading what lies at an address, cell by cell. -/
theorem run_load_cells {P : Program} {w : World} {ty : TypeId} {a : Addr} {l : List Value} {Γ : St Gh} {ls : List (SC Gh)} {t : Nat} {ef : Eff Gh} (hl : l.length = P.cellsOf ty) (hc : ∀ j v, l[j]? = some v → w.cell? (a.add j) = some v)
    (hr : rels Γ ls l) (he : aggOr P ty t ls = some ef) : ∃ sv v, ef = effPut t sv ∧ sv.cs = ls ∧ (Instr.loadAt ty (.pointer (some a))).run P w = .ok v w ∧ svRel Γ sv v := by
  unfold aggOr at he
  split at he
  · next hb =>
    simp only [Option.some.injEq] at he
    subst he
    have hu : ∃ d, P.underlying ty = some d := by
      unfold isAggB at hb
      cases hd : P.underlying ty with
      | none => rw [hd] at hb; simp at hb
      | some d => exact ⟨d, rfl⟩
    obtain ⟨d, hu⟩ := hu
    obtain ⟨i, hi, _⟩ := info_of_underlying hu
    refine ⟨_, .agg l.toArray, rfl, rfl, ?_, ⟨l, hr, rfl⟩⟩
    have hr1 := run_isAgg hu w
    have hr2 := run_sizeOf hi w
    have hr3 := run_loadCells_list (P := P) w a l hc
    rw [hl] at hr3
    simp [Instr.loadAt, Instr.sureAddr, loadVar, hr1, hb, hr2, hr3]
  · next hb =>
    split at he
    · next h1 =>
      simp only [Option.some.injEq] at he
      subst he
      obtain ⟨d, hu⟩ := Option.isSome_iff_exists.1 h1.2
      rw [h1.1] at hl
      cases l with
      | nil => simp at hl
      | cons v l => cases l with
        | cons u l => simp at hl
        | nil =>
          have hv := hc 0 v rfl
          rw [add_zero] at hv
          have hr1 := run_isAgg hu w
          refine ⟨_, v, rfl, rfl, ?_, ⟨[v], hr, rfl⟩⟩
          simp only [Bool.not_eq_true] at hb
          simp [Instr.loadAt, Instr.sureAddr, loadVar, hr1, hb, hv]
    · cases he

theorem frz_rels {w : World} {n0 : Zn} (Γ : St Gh) : ∀ (l : List GC), (∀ x ∈ l, x.copyable = true) → holdsL w n0 l → rels Γ (l.map .c) (l.map Cell.val) ∧ (∀ x ∈ l.map SC.c, scHolds w n0 x) ∧ footL ((l.map SC.c).map SC.cell) = []
  | [], _, _ => ⟨trivial, by simp, rfl⟩
  | x :: l, hc, hh => by
    obtain ⟨a1, a2, a3⟩ := frz_rels Γ l (fun y hy => hc y (by simp [hy])) hh.2
    refine ⟨⟨.inr rfl, a1⟩, ?_, ?_⟩
    · intro z hz
      rcases List.mem_cons.1 hz with rfl | hz
      · exact hh.1
      · exact a2 z hz
    · simp only [List.map_cons, SC.cell, footL, foot_copyable (hc x (by simp)) hh.1, List.nil_append]
      exact a3

theorem load_ok {w0 : W0} {w : World} {Γ : St Gh} {tm : Array Value} (h : Inv w0 Γ [] tm w) {P : Program} {t ty : Nat} {x : Operand} {ef : Eff Gh} (ht : t < tm.size) (he : effLoad P Γ t ty x = some ef) :
    ∃ v, (Instr.loadAt ty (ev tm x)).run P w = .ok v w ∧ Inv w0 (Γ.app ef) [] (tm.setIfInBounds t v) w := by
  unfold effLoad at he
  split at he
  · next r p off had =>
    obtain ⟨y, a, hy, ho, ha, hv⟩ := adOf_ok h had
    have hyh := h.cell hy
    have hspot := own_addr hyh ho ha
    split at he
    · next row hrow =>
      have hrow' : row = y.row := by
        unfold rowAtP at hrow
        rw [hy] at hrow
        simp only [ho, if_true, Option.some.injEq] at hrow
        exact hrow.symm
      subst hrow'
      split at he
      · next hlen =>
        split at he
        · next ls hls =>
          obtain ⟨a1, a2, a3, a4⟩ := seen_ok hy ho hyh _ off ls (fun k x hx => by
            rw [List.getElem?_take] at hx
            split at hx
            · rw [List.getElem?_drop] at hx; exact hx
            · cases hx) hls
          obtain ⟨sv, v, e1, e2, e3, e4⟩ := run_load_cells (P := P) (w := w) (ty := ty) (a := a.add off) (l := ((y.row.drop off).take (P.cellsOf ty)).map Cell.val) (Γ := Γ) (by simp; omega) (by
            intro j u hu
            rw [List.getElem?_map] at hu
            cases hx : ((y.row.drop off).take (P.cellsOf ty))[j]? with
            | none => rw [hx] at hu; cases hu
            | some z =>
              rw [hx] at hu
              simp only [Option.map_some, Option.some.injEq] at hu
              subst hu
              have hz : y.row[off + j]? = some z := by
                rw [List.getElem?_take] at hx
                split at hx
                · rw [List.getElem?_drop] at hx; exact hx
                · cases hx
              obtain ⟨a', ha', _, u, hu1, hu2⟩ := base_cell hyh hz
              rw [ha] at ha'; cases ha'
              rw [add_add hspot]
              rcases hu2 with hu2 | hu2
              · rw [a4 z (List.mem_of_getElem? hx)] at hu2; cases hu2
              · rw [← hu2]; exact hu1) a1 he
          refine ⟨v, by rw [hv]; exact e3, ?_⟩
          rw [e1]
          exact done_view h ht e4 (by rw [e2]; exact a2) (by unfold footV; rw [e2]; exact a3)
        · cases he
      · cases he
    · cases he
  · next g row off had =>
    obtain ⟨a, ha, hv, hh⟩ := adOf_ok h had
    split at he
    · next hc =>
      obtain ⟨hlen, hcp⟩ := hc
      have hcp' : ∀ z ∈ (row.drop off).take (P.cellsOf ty), z.copyable = true := fun z hz => List.all_eq_true.1 hcp z (List.mem_of_mem_drop (List.mem_of_mem_take hz))
      have hrh : holdsL w w0.zn ((row.drop off).take (P.cellsOf ty)) := by
        have := hh.2.2
        rw [holdsL_iff] at this ⊢
        exact fun z hz => this z (List.mem_of_mem_drop (List.mem_of_mem_take hz))
      obtain ⟨a1, a2, a3⟩ := frz_rels Γ _ hcp' hrh
      have hspot : a.spot = none := solid_spot hh.1.1 ha
      obtain ⟨sv, v, e1, e2, e3, e4⟩ := run_load_cells (P := P) (w := w) (ty := ty) (a := a.add off) (l := ((row.drop off).take (P.cellsOf ty)).map Cell.val) (Γ := Γ) (by simp; omega) (by
        intro j u hu
        rw [List.getElem?_map] at hu
        cases hx : ((row.drop off).take (P.cellsOf ty))[j]? with
        | none => rw [hx] at hu; cases hu
        | some z =>
          rw [hx] at hu
          simp only [Option.map_some, Option.some.injEq] at hu
          subst hu
          have hz : row[off + j]? = some z := by
            rw [List.getElem?_take] at hx
            split at hx
            · rw [List.getElem?_drop] at hx; exact hx
            · cases hx
          obtain ⟨a', ha', _, u, hu1, hu2⟩ := base_cell (c := .bx false g row) hh hz
          simp only [Cell.gh] at ha'
          rw [ha] at ha'; cases ha'
          rw [add_add hspot]
          rcases hu2 with hu2 | hu2
          · rw [copyable_dead (hcp' z (List.mem_of_getElem? hx))] at hu2; cases hu2
          · rw [← hu2]; exact hu1) a1 he
      refine ⟨v, by rw [hv]; exact e3, ?_⟩
      rw [e1]
      exact done_view h ht e4 (by rw [e2]; exact a2) (by unfold footV; rw [e2]; exact a3)
    · cases he
  · cases he

/-- Laying one thing that owns nothing. -/
theorem done_sc {w0 : W0} {w : World} {Γ : St Gh} {tm : Array Value} (h : Inv w0 Γ [] tm w) {t : Nat} {x : SC Gh} {u : Value} (ht : t < tm.size) (hr : scRel Γ x u) (hh : scHolds w w0.zn x) (hf : foot x.cell = []) :
    Inv w0 (Γ.app (effPut t (one x))) [] (tm.setIfInBounds t u) w :=
  done_view h ht ⟨[u], ⟨hr, trivial⟩, rfl⟩ (by intro z hz; simp only [one, List.mem_singleton] at hz; subst hz; exact hh) (by simp [footV, one, footL, hf])

theorem fieldAddr_ok {w0 : W0} {w : World} {Γ : St Gh} {tm : Array Value} (h : Inv w0 Γ [] tm w) {P : Program} {t ty f : Nat} {x : Operand} {ef : Eff Gh} (ht : t < tm.size) (he : effFieldAddr P Γ t ty x f = some ef) :
    ∃ v, (Instr.fieldAt ty (ev tm x) f).run P w = .ok v w ∧ Inv w0 (Γ.app ef) [] (tm.setIfInBounds t v) w := by
  unfold effFieldAddr at he
  cases hu : P.underlying ty with
  | none => rw [hu] at he; simp at he
  | some d =>
  rw [hu] at he
  cases d with
  | struct fs =>
    cases had : adOf Γ x with
    | none => rw [had] at he; simp at he
    | some ad =>
      rw [had] at he
      simp only at he
      cases hf : fs[f]? with
      | none => rw [hf] at he; simp at he
      | some fd =>
        rw [hf] at he
        simp only at he
        split at he
        · cases he
        · next hz =>
          obtain ⟨i, hi, hisz⟩ := cellsOf_info (P := P) (e := fd.type) (by omega)
          have hr2 := run_sizeOf hi w
          have hrun : ∀ a : Addr, (Instr.fieldAt ty (.pointer (some a)) f).run P w = .ok (.pointer (some (a.add fd.offset))) w := by
            intro a
            simp [Instr.fieldAt, run_underlying hu, hf, Instr.sureAddr, fieldPlace, hr2, hz]
          have hok := adOf_ok h had
          cases ad with
          | own r p off =>
            simp only [Option.some.injEq] at he
            subst he
            obtain ⟨y, a, hy, ho, ha, hv⟩ := hok
            have hspot := own_addr (h.cell hy) ho ha
            refine ⟨_, by rw [hv]; exact hrun _, ?_⟩
            refine done_sc h ht ⟨y, hy, ho, a, ha, by rw [add_add hspot]; rfl⟩ trivial rfl
          | frz g row off =>
            simp only [Option.some.injEq] at he
            subst he
            obtain ⟨a, ha, hv, hh⟩ := hok
            have hspot : a.spot = none := solid_spot hh.1.1 ha
            refine ⟨_, by rw [hv]; exact hrun _, ?_⟩
            exact done_sc h ht ⟨a, ha, by rw [add_add hspot]⟩ hh rfl
  | _ => simp at he

theorem mul_lt_of {i sz len : Nat} (hsz : 0 < sz) (hm : len % sz = 0) (h : i * sz < len) : i < len / sz := by
  have h1 := Nat.div_add_mod len sz
  rw [hm] at h1
  apply Nat.lt_of_not_le
  intro hle
  have h2 := Nat.mul_le_mul_left sz hle
  rw [Nat.mul_comm sz i] at h2
  omega

theorem win_addr {g : Gh} {sz lo n : Nat} {full : Bool} {v : Value} (hw : Win g sz lo n full v) (hn : 0 < n / sz) : ∃ cap, v = .slice (g.a.map (·.add lo)) (n / sz) cap := by
  obtain ⟨a', cap', hv, h1, h2, h3, h4⟩ := hw
  rcases h4 with h4 | ⟨h4, _⟩
  · exact ⟨cap', by rw [hv, h4]⟩
  · omega

theorem run_indexAt_slice {P : Program} {w : World} {ty e : TypeId} {a : Addr} {len cap : Nat} {k : IntKind} {i : Int} {inf : TypeInfo} (hu : P.underlying ty = some (.slice e)) (hi : P.info? e = some inf) (h0 : 0 ≤ i) (h1 : i < len) :
    (Instr.indexAt ty (.slice (some a) len cap) (.int k i)).run P w = .ok (.pointer (some (a.add (i.toNat * P.cellsOf e)))) w := by
  have hr2 := run_sizeOf hi w
  simp [Instr.indexAt, asIntOf, run_underlying hu, h0, h1, hr2]
theorem run_indexAt_array {P : Program} {w : World} {ty e n : TypeId} {a : Addr} {k : IntKind} {i : Int} {inf : TypeInfo} (hu : P.underlying ty = some (.array n e)) (hi : P.info? e = some inf) (h0 : 0 ≤ i) (h1 : i < n) :
    (Instr.indexAt ty (.pointer (some a)) (.int k i)).run P w = .ok (.pointer (some (a.add (i.toNat * P.cellsOf e)))) w := by
  have hr2 := run_sizeOf hi w
  simp [Instr.indexAt, asIntOf, run_underlying hu, Instr.sureAddr, h0, h1, hr2]

theorem frz_spot {w : World} {n0 : Zn} {g : Gh} {row : List GC} {a : Addr} (hh : holds w n0 (.bx false g row)) (ha : g.a = some a) : a.spot = none := solid_spot hh.1.1 ha
/-- A frozen slice's row, as a frozen row. -/
theorem frz_bx {w : World} {sz : Nat} {n0 : Zn} {g : Gh} {row : List GC} (hh : holds w n0 (.sl false sz g row)) (ha : g.a.isSome = true) (hne : row ≠ []) : holds w n0 (.bx false g row) := by
  obtain ⟨h1, h2, h3⟩ := hh
  obtain ⟨a, ha⟩ := Option.isSome_iff_exists.1 ha
  refine ⟨⟨⟨a, ha, ?_⟩, h1.2.2.2⟩, ?_, h3⟩
  · rw [ha] at h2; exact h2.1 (.inr hne)
  · rw [ha] at h2 ⊢; exact h2

theorem indexAddr_ok {w0 : W0} {w : World} {Γ : St Gh} {tm : Array Value} (h : Inv w0 Γ [] tm w) {P : Program} {t ty : Nat} {x y : Operand} {ef : Eff Gh} (ht : t < tm.size) (he : effIndexAddr P Γ t ty x y = some ef) :
    ∃ v, (Instr.indexAt ty (ev tm x) (ev tm y)).run P w = .ok v w ∧ Inv w0 (Γ.app ef) [] (tm.setIfInBounds t v) w := by
  unfold effIndexAddr at he
  cases hu : P.underlying ty with
  | none => rw [hu] at he; simp at he
  | some d =>
  rw [hu] at he
  cases hiy : intOf? Γ y with
  | none => rw [hiy] at he; cases d <;> simp at he
  | some i =>
  obtain ⟨k, hk⟩ := intOf_ok h hiy
  rw [hiy] at he
  cases d with
  | slice e =>
    cases hd : sdOf Γ x with
    | none => rw [hd] at he; simp at he
    | some sd =>
      rw [hd] at he
      simp only at he
      split at he
      · next hsz =>
        split at he
        · next hil =>
          have hok := sdOf_ok h hd
          obtain ⟨inf, hinf', _⟩ := cellsOf_info (P := P) (e := e) (by omega)
          cases sd with
          | own r p sz lo n whole full row =>
            simp only [SD.sz, SD.row, Option.some.injEq] at he hsz hil
            subst he
            obtain ⟨g, yrow, hy, hh, h1, h2, h3, h4, _, hw⟩ := hok
            have hrl : row.length = n := by rw [h2]; simp; omega
            rw [hrl] at hil
            have hlt := mul_lt_of hsz.2 h4 hil.2
            obtain ⟨cap, hv⟩ := win_addr hw (by omega)
            have hyr : yrow ≠ [] := by intro e; subst e; simp at h1; omega
            cases hga : g.a with
            | none =>
              have := hh.2.1
              rw [hga] at this
              exact absurd this.1 hyr
            | some a =>
              have hspot : a.spot = none := own_addr (y := .sl true sz g yrow) hh rfl hga
              rw [hga] at hv
              refine ⟨_, by rw [hv, hk]; exact run_indexAt_slice hu hinf' hil.1 (by omega), ?_⟩
              refine done_sc h ht ⟨_, hy, rfl, a, hga, ?_⟩ trivial rfl
              rw [add_add hspot, ← hsz.1]; rfl
          | frz sz g row =>
            simp only [SD.sz, SD.row, Option.some.injEq] at he hsz hil
            subst he
            obtain ⟨hv, hh⟩ := hok
            have hlt := mul_lt_of hsz.2 hh.1.2.1 hil.2
            have hyr : row ≠ [] := by intro e; subst e; simp at hil
            cases hga : g.a with
            | none =>
              have := hh.2.1
              rw [hga] at this
              exact absurd this.1 hyr
            | some a =>
              rw [hga] at hv
              refine ⟨_, by rw [hv, hk]; exact run_indexAt_slice hu hinf' hil.1 (by omega), ?_⟩
              exact done_sc h ht ⟨a, hga, by rw [← hsz.1]⟩ (frz_bx hh (by rw [hga]; rfl) hyr) rfl
        · cases he
      · cases he
  | array n e =>
    cases had : adOf Γ x with
    | none => rw [had] at he; simp at he
    | some ad =>
      rw [had] at he
      simp only at he
      split at he
      · next hil0 =>
        obtain ⟨hil, hce⟩ := hil0
        obtain ⟨inf, hinf', _⟩ := cellsOf_info (P := P) (e := e) hce
        have hok := adOf_ok h had
        cases ad with
        | own r p off =>
          simp only [Option.some.injEq] at he
          subst he
          obtain ⟨z, a, hz, ho, ha, hv⟩ := hok
          have hspot := own_addr (h.cell hz) ho ha
          refine ⟨_, by rw [hv, hk]; exact run_indexAt_array hu hinf' hil.1 hil.2, ?_⟩
          exact done_sc h ht ⟨z, hz, ho, a, ha, by rw [add_add hspot]; rfl⟩ trivial rfl
        | frz g row off =>
          simp only [Option.some.injEq] at he
          subst he
          obtain ⟨a, ha, hv, hh⟩ := hok
          refine ⟨_, by rw [hv, hk]; exact run_indexAt_array hu hinf' hil.1 hil.2, ?_⟩
          exact done_sc h ht ⟨a, ha, by rw [add_add (frz_spot hh ha)]⟩ hh rfl
      · cases he
  | _ => simp at he
end Go.Proofs.Ytnmocjhpbobahaa.L
namespace Go.Proofs.Ytnmocjhpbobahaa.L
open Go Go.RowKit

theorem run_sliceAt {P : Program} {w : World} {ty e : TypeId} {inf : TypeInfo} (hu : P.underlying ty = some (.slice e)) (hi : P.info? e = some inf) {a : Option Addr} {len cap l h m : Nat} {lo hi' mx : Option Value}
    (hlo : match lo with | none => l = 0 | some v => ∃ k, v = .int k (l : Int)) (hhi : match hi' with | none => h = len | some v => ∃ k, v = .int k (h : Int))
    (hmx : match mx with | none => m = cap | some v => (∃ k, v = .int k (m : Int)) ∧ m ≤ cap) (hmh : mx.isSome = true → hi'.isSome = true) (h1 : l ≤ h) (h2 : h ≤ m) :
    (Instr.sliceAt ty (.slice a len cap) lo hi' mx).run P w = .ok (.slice (if m = l then a else a.map (·.add (l * P.cellsOf e))) (h - l) (m - l)) w := by
  have hr2 := run_sizeOf hi w
  have hb : ∀ (k : IntKind) (i y : Nat) (code : BoundsCode), i ≤ y → (Instr.sliceBound (.int k (i : Int)) y code).run P w = .ok i w := by
    intro k i y code hiy
    have : (0 : Int) ≤ i ∧ (i : Int) ≤ y := ⟨by omega, by omega⟩
    simp [Instr.sliceBound, asIntOf, this]
  cases mx with
  | none =>
    simp only at hmx
    subst hmx
    cases hi' with
    | none =>
      simp only at hhi
      subst hhi
      cases lo with
      | none => simp only at hlo; subst hlo; simp [Instr.sliceAt, Instr.slice, run_underlying hu, Instr.sliceBounds, hr2]
      | some v => obtain ⟨k, rfl⟩ := hlo; simp [Instr.sliceAt, Instr.slice, run_underlying hu, Instr.sliceBounds, hr2, hb, h1]
    | some u =>
      obtain ⟨k2, rfl⟩ := hhi
      cases lo with
      | none => simp only at hlo; subst hlo; simp [Instr.sliceAt, Instr.slice, run_underlying hu, Instr.sliceBounds, hr2, hb, h2]
      | some v => obtain ⟨k, rfl⟩ := hlo; simp [Instr.sliceAt, Instr.slice, run_underlying hu, Instr.sliceBounds, hr2, hb, h1, h2]
  | some z =>
    obtain ⟨⟨k3, rfl⟩, hmc⟩ := hmx
    cases hi' with
    | none => simp at hmh
    | some u =>
      obtain ⟨k2, rfl⟩ := hhi
      cases lo with
      | none => simp only at hlo; subst hlo; simp [Instr.sliceAt, Instr.slice, run_underlying hu, Instr.sliceBounds, hr2, hb, h2, hmc]
      | some v => obtain ⟨k, rfl⟩ := hlo; simp [Instr.sliceAt, Instr.slice, run_underlying hu, Instr.sliceBounds, hr2, hb, h1, h2, hmc]

theorem run_sliceArr {P : Program} {w : World} {ty e : TypeId} {n : Nat} {inf : TypeInfo} (hu : P.underlying ty = some (.array n e)) (hi : P.info? e = some inf) {a : Addr} (hn : 0 < n) :
    (Instr.sliceAt ty (.pointer (some a)) none none none).run P w = .ok (.slice (some a) n n) w := by
  have hr2 := run_sizeOf hi w
  have h0 : a.add 0 = a := by unfold Addr.add; rw [if_pos rfl]
  have hne : ¬ n = 0 := by omega
  simp [Instr.sliceAt, run_underlying hu, Instr.sureAddr, Instr.sliceBounds, hr2, h0]
/-- A slice of all of an array. -/
theorem sliceArr_ok {w0 : W0} {w : World} {Γ : St Gh} {tm : Array Value} (h : Inv w0 Γ [] tm w) {P : Program} {t ty : Nat} {x : Operand} {lo hi mx : Option Operand} {ef : Eff Gh} (ht : t < tm.size) (hs : effSliceArr P Γ t ty x lo hi mx = some ef) :
    ∃ v, (Instr.sliceAt ty (ev tm x) (lo.map (ev tm)) (hi.map (ev tm)) (mx.map (ev tm))).run P w = .ok v w ∧ Inv w0 (Γ.app ef) [] (tm.setIfInBounds t v) w := by
  unfold effSliceArr at hs
  cases hu : P.underlying ty with
  | none => rw [hu] at hs; cases hs
  | some d =>
    rw [hu] at hs
    cases d with
    | array n e =>
      cases had : adOf Γ x with
      | none => rw [had] at hs; cases hs
      | some ad =>
        rw [had] at hs
        cases ad with
        | own r p off =>
          simp only at hs
          split at hs
          · next hc =>
            simp only [Option.some.injEq] at hs
            subst hs
            obtain ⟨c1, c2, c3, c4, c5, c6⟩ := hc
            obtain ⟨inf, hinf⟩ := Option.isSome_iff_exists.1 c6
            obtain rfl := Option.isNone_iff_eq_none.1 c1
            obtain rfl := Option.isNone_iff_eq_none.1 c2
            obtain rfl := Option.isNone_iff_eq_none.1 c3
            obtain ⟨y, a, h1, h2, h3, h4⟩ := adOf_ok h had
            refine ⟨_, by rw [h4]; exact run_sliceArr hu hinf c4, ?_⟩
            exact done_sc h ht ⟨y, h1, h2, a, h3, rfl⟩ trivial rfl
          · cases hs
        | frz g row off => cases hs
    | _ => cases hs

theorem sd_addr {w : World} {n0 : Zn} {Γ : St Gh} {v : Value} {d : SD Gh} (h : SdOk w n0 Γ v d) (hr : 0 < d.row.length) : ∃ a len cap, v = .slice (some a) len cap := by
  cases d with
  | own r p sz lo n whole full row =>
    obtain ⟨g, yrow, _, hh, hle, hrow, _, hn, _, a', cap', hv, h1, _, _, h4⟩ := h
    simp only [SD.row] at hr
    rw [hrow, List.length_take, List.length_drop] at hr
    have hsz := hh.1.1
    have hns : 0 < n / sz := by
      rcases Nat.eq_zero_or_pos (n / sz) with h0 | h0
      · have := Nat.div_add_mod n sz
        rw [h0, hn] at this; omega
      · exact h0
    rcases h4 with h4 | ⟨h4, _⟩
    · cases hg : g.a with
      | none =>
        have := hh.2.1
        rw [hg] at this
        have h5 := this.1
        rw [h5] at hr; simp at hr
      | some a => exact ⟨_, _, _, by rw [hv, h4, hg]; rfl⟩
    · omega
  | frz sz g row =>
    obtain ⟨hv, hh⟩ := h
    cases hg : g.a with
    | none =>
      have := hh.2.1
      rw [hg] at this
      have h5 := this.1
      simp only [SD.row] at hr
      rw [h5] at hr; simp at hr
    | some a => exact ⟨_, _, _, by rw [hv, hg]⟩
theorem run_nilEq {P : Program} {w : World} {ty e : TypeId} (hu : P.underlying ty = some (.slice e)) {a : Addr} {len cap : Nat} : (Op.equal ty (.slice (some a) len cap) (.slice none 0 0)).run P w = .ok false w := by
  unfold Op.equal
  rw [show Op.maxDepth = 9999 + 1 from rfl]
  unfold Op.equalIn
  simp [run_underlying hu]
theorem nilCmp_ok {w0 : W0} {w : World} {Γ : St Gh} {tm : Array Value} (h : Inv w0 Γ [] tm w) {P : Program} {t ty : Nat} {op : BinOp} {x y : Operand} {ef : Eff Gh} {o : Oper} {r : TypeId} (ho : o.op = .binOp op ty x y r) (ht : t < tm.size) (hs : effNilCmp P Γ t op ty x y = some ef) :
    ∃ v, (execOp (ev tm) o).run P w = .ok (.value v) w ∧ Inv w0 (Γ.app ef) [] (tm.setIfInBounds t v) w := by
  unfold effNilCmp at hs
  split at hs
  · next e hu =>
    split at hs
    · next d hd =>
      split at hs
      · next hr =>
        obtain ⟨a, len, cap, hv⟩ := sd_addr (sdOf_ok h hd) hr
        have hev : ev tm (.const (.slice none 0 0)) = .slice none 0 0 := rfl
        split at hs
        · simp only [Option.some.injEq] at hs
          subst hs
          refine ⟨.bool false, ?_, done_sc h ht (.inr rfl) rfl rfl⟩
          unfold execOp
          rw [ho]
          simp [hv, hev, eqGuard, binOp, run_nilEq hu]
        · simp only [Option.some.injEq] at hs
          subst hs
          refine ⟨.bool true, ?_, done_sc h ht (.inr rfl) rfl rfl⟩
          unfold execOp
          rw [ho]
          simp [hv, hev, eqGuard, binOp, run_nilEq hu]
        · cases hs
      · cases hs
    · cases hs
  · cases hs

theorem sliceNil_ok {w0 : W0} {w : World} {Γ : St Gh} {tm : Array Value} (h : Inv w0 Γ [] tm w) {P : Program} {t ty : Nat} {o : Oper} {ef : Eff Gh} (a0 : Gh) (ht : t < tm.size) (hs : effSliceNil P (goodΩ a0) Γ t ty o = some ef) :
    ∃ v, (execOp (ev tm) o).run P w = .ok (.value v) w ∧ Inv w0 (Γ.app ef) [] (tm.setIfInBounds t v) w := by
  unfold effSliceNil at hs
  split at hs
  · next e hu =>
    split at hs
    · next hc =>
      obtain ⟨hsz, hc⟩ := hc
      simp only [Bool.and_eq_true, List.all_eq_true] at hc
      obtain ⟨h1, h2⟩ := hc
      split at hs
      · next hv =>
        simp only [Option.some.injEq] at hs
        subst hs
        refine ⟨.slice none 0 0, ?_, ?_⟩
        · rw [← pv_run hv w]
          congr 1
          refine execOp_congr o (fun cs b => pureOp_select h1 cs b) ?_
          intro x hx
          have := h2 x (by simpa using hx)
          cases hvx : valOf Γ x with
          | none => rw [hvx] at this; cases this
          | some u => rw [Option.getD_some]; exact valOf_ok h hvx
        · refine done_view h ht ⟨[.slice none 0 0], ⟨.inr ?_, trivial⟩, rfl⟩ ?_ ?_
          · simp [Cell.val, goodΩ, gnil]
          · intro z hz
            simp only [one, List.mem_singleton] at hz
            subst hz
            exact ⟨⟨hsz, by simp, by simp [goodΩ, gnil], by simp⟩, ⟨rfl, by simp [goodΩ, gnil]⟩, trivial⟩
          · simp [one, footV, SC.cell, footL, foot, blockOf, goodΩ, gnil]
      · cases hs
    · cases hs
  · cases hs

theorem bound_ok {w0 : W0} {w : World} {Γ : St Gh} {xs : List GC} {tm : Array Value} (h : Inv w0 Γ xs tm w) {dflt n : Nat} {x : Option Operand} (hb : bound Γ dflt x = some n) :
    match x.map (ev tm) with | none => n = dflt | some v => ∃ k, v = .int k (n : Int) := by
  cases x with
  | none => simp only [bound, Option.some.injEq] at hb; exact hb.symm
  | some y => exact natOf_ok h hb

theorem row_le {w : World} {sz : Nat} {n0 : Zn} {o : Bool} {g : Gh} {row : List GC} (h : holds w n0 (.sl o sz g row)) : row.length ≤ g.cap * sz := by
  have h1 := Nat.div_add_mod row.length sz
  rw [h.1.2.1] at h1
  have h2 := Nat.mul_le_mul_left sz h.1.2.2.1
  rw [Nat.mul_comm g.cap sz]
  omega

theorem slice_ok {w0 : W0} {w : World} {Γ : St Gh} {tm : Array Value} (h : Inv w0 Γ [] tm w) {P : Program} {t ty : Nat} {x : Operand} {lo hi mx : Option Operand} (ht : t < tm.size) (a0 : Gh) (hs : (effSlice P (goodΩ a0) Γ t ty x lo hi mx).isSome) :
    ∃ a v, (Instr.sliceAt ty (ev tm x) (lo.map (ev tm)) (hi.map (ev tm)) (mx.map (ev tm))).run P w = .ok v w ∧ ∀ ef, effSlice P (goodΩ a) Γ t ty x lo hi mx = some ef → Inv w0 (Γ.app ef) [] (tm.setIfInBounds t v) w := by
  unfold effSlice at hs ⊢
  cases hu : P.underlying ty with
  | none => rw [hu] at hs; simp at hs
  | some d =>
  rw [hu] at hs
  cases d with
  | slice e =>
    cases hd : sdOf Γ x with
    | none => rw [hd] at hs; simp at hs
    | some sd =>
      rw [hd] at hs
      simp only at hs ⊢
      by_cases hsz : sd.sz = P.cellsOf e ∧ 0 < sd.sz ∧ (mx.isSome = true → hi.isSome = true)
      · rw [if_pos hsz] at hs
        simp only [if_pos hsz]
        cases hh : bound Γ (sd.row.length / sd.sz) hi with
        | none => rw [hh] at hs; simp at hs
        | some h' =>
          cases hl : bound Γ 0 lo with
          | none => rw [hh, hl] at hs; simp at hs
          | some l =>
            cases hm : bound Γ (sd.row.length / sd.sz) mx with
            | none => rw [hh, hl, hm] at hs; simp at hs
            | some m =>
              rw [hh, hl, hm] at hs
              simp only at hs ⊢
              by_cases hc : l ≤ h' ∧ h' ≤ m ∧ m ≤ sd.row.length / sd.sz
              · simp only [if_pos hc, Option.some.injEq]
                obtain ⟨c1, c2, c3⟩ := hc
                obtain ⟨z1, z2, z3⟩ := hsz
                obtain ⟨inf, hinf, _⟩ := cellsOf_info (P := P) (e := e) (by omega)
                have hok := sdOf_ok h hd
                have bl := bound_ok h hl
                have bh := bound_ok h hh
                have bm := bound_ok h hm
                have hmap : (mx.map (ev tm)).isSome = true → (hi.map (ev tm)).isSome = true := by simpa using z3
                cases sd with
                | own r p sz lo' n whole full row =>
                  simp only [SD.sz, SD.row] at z1 z2 c3 bh bm
                  obtain ⟨g, yrow, hy, hyh, h1, h2, h3, h4, _, hw⟩ := hok
                  obtain ⟨a', cap', hv, w1, w2, w3, w4⟩ := hw
                  have hrl : row.length = n := by rw [h2]; simp; omega
                  rw [hrl] at c3 bh bm
                  obtain ⟨M, hM1, hM2, hM3, hM4⟩ : ∃ M, (match mx.map (ev tm) with | none => M = cap' | some v => (∃ k, v = .int k (M : Int)) ∧ M ≤ cap') ∧ h' ≤ M ∧ M ≤ cap' ∧ ((mx.isSome && m == h') = true → M = h') := by
                    cases mx with
                    | none => exact ⟨cap', rfl, by omega, Nat.le_refl _, by simp⟩
                    | some y => exact ⟨m, ⟨bm, by omega⟩, c2, by omega, by simp⟩
                  refine ⟨gnil, _, by rw [hv]; exact run_sliceAt hu hinf bl bh hM1 hmap c1 hM2, ?_⟩
                  rintro ef rfl
                  have hhn : h' * sz ≤ n := by
                    have := Nat.div_mul_le_self n sz
                    have := Nat.mul_le_mul_right sz (show h' ≤ n / sz by omega)
                    omega
                  have hlh : l * sz + (h' - l) * sz = h' * sz := by rw [← Nat.add_mul]; congr 1; omega
                  refine done_sc h ht ⟨_, hy, sz, g, yrow.length, rfl, by omega, by rw [Nat.add_mul_mod_self_right]; exact h3, Nat.mul_mod_left _ _, ?_⟩ trivial rfl
                  refine ⟨if M = l then a' else a'.map (·.add (l * P.cellsOf e)), M - l, ?_, ?_, ?_, ?_, ?_⟩
                  · rw [Nat.mul_div_cancel _ z2]
                  · rw [Nat.mul_div_cancel _ z2]; omega
                  · intro hf
                    have := hM4 hf
                    rw [Nat.mul_div_cancel _ z2]; omega
                  · rw [Nat.add_mul_div_right _ _ z2]; omega
                  · by_cases hMl : M = l
                    · rw [if_pos hMl]
                      refine .inr ⟨by omega, ?_⟩
                      rcases w4 with w4 | ⟨_, k, k1, k2⟩
                      · exact ⟨lo', by have := row_le hyh; omega, w4⟩
                      · exact ⟨k, k1, k2⟩
                    · rw [if_neg hMl]
                      left
                      rcases w4 with w4 | ⟨k0, _⟩
                      · rw [w4]
                        cases hga : g.a with
                        | none => rfl
                        | some a =>
                          have hspot : a.spot = none := own_addr (y := .sl true sz g yrow) hyh rfl hga
                          simp only [Option.map_some]
                          rw [add_add hspot, z1]
                      · omega
                | frz sz g row =>
                  simp only [SD.sz, SD.row] at z1 z2 c3 bh bm
                  obtain ⟨hv, hyh⟩ := hok
                  obtain ⟨M, hM1, hM2, hM3⟩ : ∃ M, (match mx.map (ev tm) with | none => M = g.cap | some v => (∃ k, v = .int k (M : Int)) ∧ M ≤ g.cap) ∧ h' ≤ M ∧ M ≤ g.cap := by
                    have hcap := hyh.1.2.2.1
                    cases mx with
                    | none => exact ⟨g.cap, rfl, by omega, Nat.le_refl _⟩
                    | some y => exact ⟨m, ⟨bm, by omega⟩, c2, by omega⟩
                  refine ⟨⟨if M = l then g.a else g.a.map (·.add (l * P.cellsOf e)), M - l⟩, _, by rw [hv]; exact run_sliceAt hu hinf bl bh hM1 hmap c1 hM2, ?_⟩
                  rintro ef rfl
                  have hhn : h' * sz ≤ row.length := by
                    have := Nat.div_mul_le_self row.length sz
                    have := Nat.mul_le_mul_right sz (show h' ≤ row.length / sz by omega)
                    omega
                  have hlh : l * sz + (h' - l) * sz = h' * sz := by rw [← Nat.add_mul]; congr 1; omega
                  have hlen : ((row.drop (l * sz)).take ((h' - l) * sz)).length = (h' - l) * sz := by simp; omega
                  have hget : ∀ i c, ((row.drop (l * sz)).take ((h' - l) * sz))[i]? = some c → row[l * sz + i]? = some c := by
                    intro i c hi
                    rw [List.getElem?_take] at hi
                    split at hi
                    · rw [List.getElem?_drop] at hi; exact hi
                    · cases hi
                  have hmem : ∀ c ∈ (row.drop (l * sz)).take ((h' - l) * sz), c ∈ row := fun c hc => List.mem_of_mem_drop (List.mem_of_mem_take hc)
                  have hnew : holds w w0.zn (.sl false sz ⟨if M = l then g.a else g.a.map (·.add (l * P.cellsOf e)), M - l⟩ ((row.drop (l * sz)).take ((h' - l) * sz))) := by
                    obtain ⟨q1, q2, q3⟩ := hyh
                    refine ⟨⟨z2, by rw [hlen]; exact Nat.mul_mod_left _ _, by rw [hlen, Nat.mul_div_cancel _ z2]; show h' - l ≤ M - l; omega, fun _ => ?_⟩, ?_, ?_⟩
                    · rw [List.eq_nil_iff_forall_not_mem]
                      intro b hb
                      obtain ⟨c, hc, hbc⟩ := mem_footL.1 hb
                      have : b ∈ footL row := mem_footL.2 ⟨c, hmem c hc, hbc⟩
                      rw [q1.2.2.2 rfl] at this; simp at this
                    · cases hga : g.a with
                      | none =>
                        rw [hga] at q2
                        obtain ⟨q4, q5⟩ := q2
                        have hc0 : g.cap = 0 := by
                          rcases Nat.mul_eq_zero.1 q5 with h | h
                          · exact h
                          · omega
                        have : (if M = l then (none : Option Addr) else (none : Option Addr).map (·.add (l * P.cellsOf e))) = none := by split <;> rfl
                        simp only [this]
                        exact ⟨by rw [q4]; simp, by have : M - l = 0 := (by omega); rw [this]; simp⟩
                      | some a =>
                        rw [hga] at q2
                        obtain ⟨q4, q5, q6⟩ := q2
                        simp only [Bool.false_eq_true, if_false] at q6
                        have hrne : (row.drop (l * sz)).take ((h' - l) * sz) ≠ [] → row ≠ [] := by intro hne e; apply hne; rw [e]; simp
                        by_cases hMl : M = l
                        · have : (if M = l then some a else (some a).map (·.add (l * P.cellsOf e))) = some a := if_pos hMl
                          simp only [this]
                          have hnil : (row.drop (l * sz)).take ((h' - l) * sz) = [] := by have : h' - l = 0 := (by omega); rw [this]; simp
                          refine ⟨fun hd => absurd hnil (hd.resolve_left (by simp)), by rw [hnil]; simp, by simp only [Bool.false_eq_true, if_false]; exact fun hne => absurd hnil hne⟩
                        · have : (if M = l then some a else (some a).map (·.add (l * P.cellsOf e))) = some (a.add (l * sz)) := by rw [if_neg hMl, ← z1]; rfl
                          simp only [this]
                          refine ⟨fun hd => add_spot (q4 (.inr (hrne (hd.resolve_left (by simp))))) _, ?_, by simp only [Bool.false_eq_true, if_false]; exact fun hne => by rw [add_block]; exact q6 (hrne hne)⟩
                          intro i c hi
                          rw [add_add (q4 (.inr (hrne (by intro e; rw [e] at hi; simp at hi))))]
                          exact q5 _ c (hget i c hi)
                    · rw [holdsL_iff] at q3 ⊢
                      exact fun c hc => q3 c (hmem c hc)
                  have hval : Cell.val (.sl false sz ⟨if M = l then g.a else g.a.map (·.add (l * P.cellsOf e)), M - l⟩ ((row.drop (l * sz)).take ((h' - l) * sz))) = .slice (if M = l then g.a else g.a.map (·.add (l * P.cellsOf e))) (h' - l) (M - l) := by
                    simp only [Cell.val]
                    rw [hlen, Nat.mul_div_cancel _ z2]
                  exact done_sc h ht (.inr hval.symm) hnew (foot_copyable rfl hnew)
              · rw [if_neg hc] at hs; simp at hs
      · rw [if_neg hsz] at hs; simp at hs
  | _ => simp at hs

theorem len_ok {w0 : W0} {w : World} {Γ : St Gh} {tm : Array Value} (h : Inv w0 Γ [] tm w) {P : Program} {t : Nat} {args : Array Operand} {tys : Array TypeId} {rt : TypeId} {ef : Eff Gh} (ht : t < tm.size) (he : effLen P Γ t args.toList tys.toList = some ef) :
    ∃ v, (Builtin.len_ tys rt (args.map (ev tm))).run P w = .ok v w ∧ Inv w0 (Γ.app ef) [] (tm.setIfInBounds t v) w := by
  unfold effLen at he
  split at he
  · next x ty hx hty =>
    cases hu : P.underlying ty with
    | none => rw [hu] at he; simp at he
    | some d =>
    rw [hu] at he
    cases d with
    | slice e =>
      cases hd : sdOf Γ x with
      | none => rw [hd] at he; simp at he
      | some sd =>
        rw [hd] at he
        simp only at he
        split at he
        · next hsz =>
          simp only [Option.some.injEq] at he
          subst he
          have ha : args = #[x] := by apply Array.ext'; simpa using hx
          have hb : tys = #[ty] := by apply Array.ext'; simpa using hty
          subst ha; subst hb
          have hv : ∃ a cap, ev tm x = .slice a (sd.row.length / sd.sz) cap := by
            have hok := sdOf_ok h hd
            cases sd with
            | own r p sz lo n whole full row =>
              obtain ⟨g, yrow, hy, hyh, h1, h2, h3, h4, _, hw⟩ := hok
              obtain ⟨a', cap', hv, _⟩ := hw
              have hrl : row.length = n := by rw [h2]; simp; omega
              exact ⟨a', cap', by simp only [SD.row, SD.sz]; rw [hrl]; exact hv⟩
            | frz sz g row => exact ⟨_, _, hok.1⟩
          obtain ⟨a, cap, hv⟩ := hv
          refine ⟨.int .i64 ((sd.row.length / sd.sz : Nat) : Int), ?_, ?_⟩
          · simp [Builtin.len_, run_underlying hu, hv, goInt]
          · exact done_sc h ht (.inr rfl) (show isSc _ = true from rfl) rfl
        · cases he
    | _ => simp at he
  · cases he

theorem kdLen_none : kdLen none = 1 := rfl
theorem kdLen_some (n : Nat) : kdLen (some n) = n := rfl
theorem packL_get : ∀ (ks : List (Option Nat)) (vs : List Value) (i : Nat) (k : Option Nat), ks[i]? = some k → ((ks.take i).map kdLen).sum + kdLen k ≤ vs.length →
    (packL ks vs)[i]? = some (pack (kdKd k) ((vs.drop (((ks.take i).map kdLen).sum)).take (kdLen k)))
  | [], _, i, k, h, _ => by simp at h
  | none :: ks, vs, 0, k, h, hl => by
    simp at h
    subst h
    simp only [List.take_zero, List.map_nil, List.sum_nil, kdLen] at hl
    cases vs with
    | nil => simp at hl
    | cons v vs => simp [packL, pack, kdKd, kdLen]
  | some n :: ks, vs, 0, k, h, hl => by
    simp at h
    subst h
    simp [packL, pack, kdKd, kdLen]
  | none :: ks, vs, i + 1, k, h, hl => by
    simp at h
    simp only [List.take_succ_cons, List.map_cons, List.sum_cons, kdLen_none, kdLen_some] at hl ⊢
    have := packL_get ks vs.tail i k h (by rw [List.length_tail]; omega)
    simp only [packL, List.getElem?_cons_succ]
    rw [this, ← List.drop_one, List.drop_drop]
  | some n :: ks, vs, i + 1, k, h, hl => by
    simp at h
    simp only [List.take_succ_cons, List.map_cons, List.sum_cons, kdLen_none, kdLen_some] at hl ⊢
    have := packL_get ks (vs.drop n) i k h (by rw [List.length_drop]; omega)
    simp only [packL, List.getElem?_cons_succ]
    rw [this, List.drop_drop]
theorem rels_take {Γ : St Gh} : ∀ {l : List (SC Gh)} {us : List Value} (n : Nat), rels Γ l us → rels Γ (l.take n) (us.take n)
  | _, _, 0, _ => trivial
  | [], [], _ + 1, _ => trivial
  | x :: l, u :: us, n + 1, h => ⟨h.1, rels_take n h.2⟩
  | [], _ :: _, _ + 1, h => by simp [rels] at h
  | _ :: _, [], _ + 1, h => by simp [rels] at h
theorem rels_drop {Γ : St Gh} : ∀ {l : List (SC Gh)} {us : List Value} (n : Nat), rels Γ l us → rels Γ (l.drop n) (us.drop n)
  | _, _, 0, h => h
  | [], [], _ + 1, _ => trivial
  | x :: l, u :: us, n + 1, h => rels_drop n h.2
  | [], _ :: _, _ + 1, h => by simp [rels] at h
  | _ :: _, [], _ + 1, h => by simp [rels] at h

theorem extract_ok {w0 : W0} {w : World} {Γ : St Gh} {tm : Array Value} (h : Inv w0 Γ [] tm w) {P : Program} {t i : Nat} {x : Operand} {ef : Eff Gh} (ht : t < tm.size) (he : effExtract Γ t x i = some ef) :
    ∃ v, (Instr.extract (ev tm x) i).run P w = .ok v w ∧ Inv w0 (Γ.app ef) [] (tm.setIfInBounds t v) w := by
  unfold effExtract at he
  split at he
  · next s =>
    split at he
    · next ks cs hg =>
      split at he
      · next k hk =>
        split at he
        · next hl =>
          simp only [Option.some.injEq] at he
          subst he
          obtain ⟨us, h1, h2⟩ := h.rel s
          rw [hg] at h1 h2
          simp only at h1 h2
          have hlen := rels_length h1
          have hget := packL_get ks us i k hk (by rw [hlen]; exact hl)
          have hv : ev tm (.tmp s) = .tuple (packL ks us).toArray := h2
          refine ⟨pack (kdKd k) ((us.drop (((ks.take i).map kdLen).sum)).take (kdLen k)), ?_, ?_⟩
          · rw [hv]
            have : (packL ks us).toArray[i]? = some (pack (kdKd k) ((us.drop (((ks.take i).map kdLen).sum)).take (kdLen k))) := by simpa using hget
            simp [Instr.extract, this]
          · have hh : ∀ z ∈ cs, scHolds w w0.zn z := by have := h.hold s; rw [hg] at this; exact this
            have hsr := shareAll_rel (Γ := Γ) (s := s) cs us 0 (fun k x hk => by rw [hg]; simpa using hk) h1
            obtain ⟨a1, a2⟩ := shareAll_hold (w := w) (n0 := w0.zn) (s := s) cs 0 hh
            refine done_view h ht ⟨_, rels_take _ (rels_drop _ hsr), rfl⟩ ?_ ?_
            · intro z hz
              exact a1 z (List.mem_of_mem_drop (List.mem_of_mem_take hz))
            · unfold footV
              rw [List.eq_nil_iff_forall_not_mem]
              intro b hb
              obtain ⟨c, hc, hbc⟩ := mem_footL.1 hb
              obtain ⟨z, hz, rfl⟩ := List.mem_map.1 hc
              have : b ∈ footL ((shareAll s 0 cs).map SC.cell) := mem_footL.2 ⟨_, List.mem_map.2 ⟨z, List.mem_of_mem_drop (List.mem_of_mem_take hz), rfl⟩, hbc⟩
              rw [a2] at this; simp at this
        · cases he
      · cases he
    · cases he
  · cases he

theorem field_ok {w0 : W0} {w : World} {Γ : St Gh} {tm : Array Value} (h : Inv w0 Γ [] tm w) {P : Program} {t ty f : Nat} {x : Operand} {ef : Eff Gh} (ht : t < tm.size) (he : effField P Γ t ty x f = some ef) :
    ∃ v, (Instr.field ty (ev tm x) f).run P w = .ok v w ∧ Inv w0 (Γ.app ef) [] (tm.setIfInBounds t v) w := by
  unfold effField at he
  split at he
  · next fs s hu =>
    split at he
    · next cs fd hg hfd =>
      split at he
      · next hl =>
        obtain ⟨us, h1, h2⟩ := h.rel s
        rw [hg] at h1 h2
        simp only at h1 h2
        have hlen := rels_length h1
        have hv : ev tm (.tmp s) = .agg us.toArray := h2
        have hh : ∀ z ∈ cs, scHolds w w0.zn z := by have := h.hold s; rw [hg] at this; exact this
        have hsr := shareAll_rel (Γ := Γ) (s := s) cs us 0 (fun k x hk => by rw [hg]; simpa using hk) h1
        obtain ⟨a1, a2⟩ := shareAll_hold (w := w) (n0 := w0.zn) (s := s) cs 0 hh
        have hrel := rels_take (P.cellsOf fd.type) (rels_drop fd.offset hsr)
        have hhold : ∀ z ∈ ((shareAll s 0 cs).drop fd.offset).take (P.cellsOf fd.type), scHolds w w0.zn z := fun z hz => a1 z (List.mem_of_mem_drop (List.mem_of_mem_take hz))
        have hfoot : footL ((((shareAll s 0 cs).drop fd.offset).take (P.cellsOf fd.type)).map SC.cell) = [] := by
          rw [List.eq_nil_iff_forall_not_mem]
          intro b hb
          obtain ⟨c, hc, hbc⟩ := mem_footL.1 hb
          obtain ⟨z, hz, rfl⟩ := List.mem_map.1 hc
          have : b ∈ footL ((shareAll s 0 cs).map SC.cell) := mem_footL.2 ⟨_, List.mem_map.2 ⟨z, List.mem_of_mem_drop (List.mem_of_mem_take hz), rfl⟩, hbc⟩
          rw [a2] at this; simp at this
        unfold aggOr at he
        split at he
        · next hb =>
          simp only [Option.some.injEq] at he
          subst he
          have hu2 : ∃ d, P.underlying fd.type = some d := by
            unfold isAggB at hb
            cases hd : P.underlying fd.type with
            | none => rw [hd] at hb; simp at hb
            | some d => exact ⟨d, rfl⟩
          obtain ⟨d, hu2⟩ := hu2
          obtain ⟨i, hi, _⟩ := info_of_underlying hu2
          have hr1 := run_isAgg hu2 w
          have hr2 := run_sizeOf hi w
          refine ⟨.agg ((us.drop fd.offset).take (P.cellsOf fd.type)).toArray, ?_, done_view h ht ⟨_, hrel, rfl⟩ hhold hfoot⟩
          rw [hv]
          have e1 : us.toArray.extract fd.offset (fd.offset + P.cellsOf fd.type) = ((us.drop fd.offset).take (P.cellsOf fd.type)).toArray := by
            apply Array.ext'
            simp [List.extract_eq_take_drop, Nat.add_sub_cancel_left]
          simp [Instr.field, run_underlying hu, hfd, asAgg, part, hr1, hb, hr2, e1]
        · next hb =>
          split at he
          · next hc =>
            simp only [Option.some.injEq] at he
            subst he
            obtain ⟨d, hu2⟩ := Option.isSome_iff_exists.1 hc.2
            have hr1 := run_isAgg hu2 w
            simp only [Bool.not_eq_true] at hb
            rw [hc.1] at hl hrel hhold hfoot ⊢
            have hlt : fd.offset < us.length := by rw [hlen]; omega
            refine ⟨us[fd.offset], ?_, done_view h ht ⟨_, hrel, ?_⟩ hhold hfoot⟩
            · rw [hv]
              simp [Instr.field, run_underlying hu, hfd, asAgg, part, hr1, hb, hlt]
            · simp only [pack]
              rw [List.drop_eq_getElem_cons hlt]
              rfl
          · cases he
      · cases he
    · cases he
  · cases he

theorem nil_ok {w0 : W0} {w : World} {Γ : St Gh} {tm : Array Value} (h : Inv w0 Γ [] tm w) {t : Nat} {x : Operand} {ef : Eff Gh} (ht : t < tm.size) (he : effNil Γ t x = some ef) :
    ((∃ a, ev tm x = .pointer (some a)) ∨ ∃ a l c, ev tm x = .slice a l c) ∧ Inv w0 (Γ.app ef) [] (tm.setIfInBounds t (ev tm x)) w := by
  unfold effNil at he
  split at he
  · next s =>
    have hgen : (Γ.get s).k = .one → ∀ ef, ef = effPut t ⟨.one, shareAll s 0 (Γ.get s).cs⟩ → Inv w0 (Γ.app ef) [] (tm.setIfInBounds t (ev tm (.tmp s))) w := by
      rintro hk ef rfl
      obtain ⟨us, h1, h2⟩ := h.rel s
      have hsr := shareAll_rel (Γ := Γ) (s := s) (Γ.get s).cs us 0 (fun k x hk => by simpa using hk) h1
      obtain ⟨a1, a2⟩ := shareAll_hold (w := w) (n0 := w0.zn) (s := s) (Γ.get s).cs 0 (h.hold s)
      exact done_view h ht ⟨us, hsr, by rw [show ev tm (.tmp s) = _ from h2, hk]⟩ a1 a2
    split at he
    · next hk =>
      split at he
      · next o g row hc =>
        simp only [Option.some.injEq] at he
        refine ⟨.inl ?_, hgen hk ef he.symm⟩
        have hh : holds w w0.zn (.bx o g row) := h.hold s (.c (.bx o g row)) (by rw [hc]; simp)
        obtain ⟨a, ha, _⟩ := hh.1.1
        rcases one_val hk hc (h.rel s) with hr | hr
        · cases hr
        · exact ⟨a, by show tm.getD s undef = _; rw [hr]; simp [Cell.val, ha]⟩
      · next r p hc =>
        simp only [Option.some.injEq] at he
        refine ⟨?_, hgen hk ef he.symm⟩
        obtain ⟨y, hy, ho, hv⟩ := one_val hk hc (h.rel s)
        have hh := h.cell hy
        cases y with
        | sc v => simp [Cell.isOwn] at ho
        | dead => simp [Cell.isOwn] at ho
        | sl o sz g row => exact .inr ⟨_, _, _, hv⟩
        | bx o g row =>
          obtain ⟨a, ha, _⟩ := hh.1.1
          exact .inl ⟨a, by show tm.getD s undef = _; rw [hv]; simp [Cell.val, ha]⟩
      · next r p off hc =>
        simp only [Option.some.injEq] at he
        refine ⟨.inl ?_, hgen hk ef he.symm⟩
        obtain ⟨y, _, _, a, _, hv⟩ := one_val hk hc (h.rel s)
        exact ⟨_, hv⟩
      · next g row off hc =>
        simp only [Option.some.injEq] at he
        refine ⟨.inl ?_, hgen hk ef he.symm⟩
        obtain ⟨a, _, hv⟩ := one_val hk hc (h.rel s)
        exact ⟨_, hv⟩
      · cases he
    · cases he
  · cases he
end Go.Proofs.Ytnmocjhpbobahaa.L
namespace Go.Proofs.Ytnmocjhpbobahaa.L
open Go Go.RowKit

/-- What an assignment lays: taken, or copied as it stands. -/
theorem topSC_ok {w0 : W0} {w : World} {Γ : St Gh} {tm : Array Value} {pool : List GC} {s t i : Nat} {d d' : Pend Gh} {x z : SC Gh} {u : Value}
    (h : Inv w0 (Γ.pend d) pool tm w) (hb : Back Γ (Γ.pend d)) (hx : ∀ c, x = .c c → c.isOwn = true → (Γ.get s).cs[i]? = some x) (hu : scRel Γ x u) (hh : scHolds w w0.zn x)
    (ht : topSC Γ s t d i x = some (z, d')) :
    (∃ ys, Inv w0 (Γ.pend d') (ys ++ pool) tm w ∧ foot z.cell = footL ys ∧ (ys ≠ [] → ∃ y, ys = [y] ∧ z = .c y)) ∧ Back Γ (Γ.pend d') ∧ scHolds w w0.zn z ∧
      ((z = x ∧ d' = d) ∨ ∃ y, z = .c y ∧ u = y.val) := by
  have hfree : ∀ c, x = .c c → c.isOwn = false → foot c = [] := by
    rintro c rfl ho
    have hh' : holds w w0.zn c := hh
    cases c with
    | sc v => rfl
    | dead => rfl
    | sl o sz g row =>
      simp only [Cell.isOwn] at ho
      subst ho
      exact foot_copyable rfl hh'
    | bx o g row =>
      simp only [Cell.isOwn] at ho
      subst ho
      exact foot_copyable rfl hh'
  have hkeep : ∀ f : foot x.cell = [], some (x, d) = some (z, d') →
      (∃ ys, Inv w0 (Γ.pend d') (ys ++ pool) tm w ∧ foot z.cell = footL ys ∧ (ys ≠ [] → ∃ y, ys = [y] ∧ z = .c y)) ∧ Back Γ (Γ.pend d') ∧ scHolds w w0.zn z ∧
      ((z = x ∧ d' = d) ∨ ∃ y, z = .c y ∧ u = y.val) := by
    intro f e
    simp only [Option.some.injEq, Prod.mk.injEq] at e
    obtain ⟨rfl, rfl⟩ := e
    exact ⟨⟨[], h, by rw [f]; rfl, by simp⟩, hb, hh, .inl ⟨rfl, rfl⟩⟩
  have htake : ∀ r p, (takeAt Γ d r p).map (fun z => (SC.c z.1, z.2)) = some (z, d') → (∃ z0, (Γ.get r).getP p = some z0 ∧ z0.isOwn = true ∧ u = z0.val) →
      (∃ ys, Inv w0 (Γ.pend d') (ys ++ pool) tm w ∧ foot z.cell = footL ys ∧ (ys ≠ [] → ∃ y, ys = [y] ∧ z = .c y)) ∧ Back Γ (Γ.pend d') ∧ scHolds w w0.zn z ∧
      ((z = x ∧ d' = d) ∨ ∃ y, z = .c y ∧ u = y.val) := by
    rintro r p e ⟨z0, g1, g2, g3⟩
    cases hta : takeAt Γ d r p with
    | none => rw [hta] at e; cases e
    | some yd =>
      obtain ⟨y, d1⟩ := yd
      rw [hta] at e
      simp only [Option.map_some, Option.some.injEq, Prod.mk.injEq] at e
      obtain ⟨rfl, rfl⟩ := e
      obtain ⟨a1, a2, a3, a4, _⟩ := take_ok h hta
      obtain ⟨z1, b1, b2⟩ := hb r p y a3 a4
      rw [g1] at b1
      cases b1
      exact ⟨⟨[y], a1, by simp [SC.cell, footL], fun _ => ⟨y, rfl, rfl⟩⟩, hb.trans a2, a1.pool.1, .inr ⟨y, rfl, by rw [g3]; exact (head_val b2 g2).symm⟩⟩
  cases x with
  | c y =>
    simp only [topSC] at ht
    split at ht
    · next ho =>
      refine htake s [i] ht ⟨y, by simp [SV.getP, hx y rfl ho, Cell.getC], ho, ?_⟩
      rcases hu with hu | hu
      · rw [isDead_own ho] at hu; cases hu
      · exact hu
    · next ho => exact hkeep (hfree y rfl (by simpa using ho)) ht
  | view r p =>
    simp only [topSC] at ht
    split at ht
    · split at ht
      · cases ht
      · obtain ⟨y, h1, h2, h3⟩ := hu
        exact htake r p ht ⟨y, h1, h2, h3⟩
    · exact hkeep rfl ht
  | win r p lo n f => exact hkeep rfl ht
  | ref r p o m => exact hkeep rfl ht
  | fref g row o => exact hkeep rfl ht
  | cut r y ws => simp [topSC] at ht
  | dead => exact hkeep rfl ht

theorem Back.rel {Γ Γ' : St Gh} {ks : List (Nat × List Nat)} (hk : ∀ r q, (∀ k ∈ ks, ¬ (k.1 = r ∧ k.2.isPrefixOf q = true)) → ∀ z, (Γ.get r).getP q = some z → ∃ z', (Γ'.get r).getP q = some z' ∧ z'.head = z.head)
    {x : SC Gh} {u : Value} (h : scRel Γ x u) : scRel Γ' (x.kill ks) u := by
  unfold SC.kill
  split
  · trivial
  · next hn =>
    refine scRel_head h ?_
    intro r q z hroot hform hz
    refine hk r q ?_ z hz
    intro k hkm hke
    apply hn
    refine List.any_eq_true.2 ⟨k, hkm, ?_⟩
    obtain ⟨k1, k2⟩ := hke
    rcases hform with rfl | ⟨lo, n, f, rfl⟩ | ⟨off, m, rfl⟩ | ⟨x', ws, e, rfl, he, hep⟩
    · simp [SC.dies, k1, k2]
    · simp [SC.dies, k1, k2]
    · simp [SC.dies, k1, k2]
    · simp only [SC.dies, k1, beq_self_eq_true, Bool.true_and]
      exact List.any_eq_true.2 ⟨e, he, by rw [hep]; exact k2⟩

/-- What a path sees outlives the takings, where it leads through none of them. -/
theorem pend_keeps {Γ : St Gh} {d d' : Pend Gh} {r0 : Nat} {p0 : List Nat} {y : GC} (ht : takeAt Γ d r0 p0 = some (y, d'))
    (hk : ∀ r q, (∀ k ∈ d.kill, ¬ (k.1 = r ∧ k.2.isPrefixOf q = true)) → ∀ z, (Γ.get r).getP q = some z → ∃ z', ((Γ.pend d).get r).getP q = some z' ∧ z'.head = z.head) :
    ∀ r q, (∀ k ∈ d'.kill, ¬ (k.1 = r ∧ k.2.isPrefixOf q = true)) → ∀ z, (Γ.get r).getP q = some z → ∃ z', ((Γ.pend d').get r).getP q = some z' ∧ z'.head = z.head := by
  unfold takeAt at ht
  split at ht
  · next z0 hz0 =>
    split at ht
    · simp only [Option.some.injEq, Prod.mk.injEq] at ht
      obtain ⟨rfl, rfl⟩ := ht
      intro r q hq z hz
      obtain ⟨z', h1, h2⟩ := hk r q (fun k hkm => hq k (by simp [hkm])) z hz
      rw [pend_get, getP_kill] at h1
      rw [pend_get, getP_kill]
      unfold ovGet
      simp only [List.lookup]
      by_cases hr : r = r0
      · subst hr
        simp only [beq_self_eq_true]
        have hnp : p0.isPrefixOf q = false := by
          cases hp : p0.isPrefixOf q with
          | false => rfl
          | true => exact absurd ⟨rfl, hp⟩ (hq (r, p0) (by simp))
        obtain ⟨z2, g1, g2⟩ := getP_setP_other (y := .dead) hnp h1
        exact ⟨z2, g1, g2.trans h2⟩
      · have : (r == r0) = false := by simpa using hr
        rw [this]
        exact ⟨z', h1, h2⟩
    · cases ht
  · cases ht

theorem takeTop_ok {w0 : W0} {w : World} {Γ : St Gh} {tm : Array Value} {s t : Nat} : ∀ (l : List (SC Gh)) (us : List Value) (pool : List GC) (d d' : Pend Gh) (i : Nat) (zs : List (SC Gh)),
    Inv w0 (Γ.pend d) pool tm w → Back Γ (Γ.pend d) →
    (∀ r q, (∀ k ∈ d.kill, ¬ (k.1 = r ∧ k.2.isPrefixOf q = true)) → ∀ z, (Γ.get r).getP q = some z → ∃ z', ((Γ.pend d).get r).getP q = some z' ∧ z'.head = z.head) →
    (∀ k c, l[k]? = some (.c c) → c.isOwn = true → (Γ.get s).cs[i + k]? = some (.c c)) → rels Γ l us → (∀ x ∈ l, scHolds w w0.zn x) →
    takeTop Γ s t d i l = some (zs, d') →
    (∃ ys, Inv w0 (Γ.pend d') (ys ++ pool) tm w ∧ (footL (zs.map SC.cell)).Perm (footL ys)) ∧ rels (Γ.pend d') (zs.map (SC.kill d'.kill)) us ∧ (∀ z ∈ zs, scHolds w w0.zn z) ∧ (∀ k ∈ d.kill, k ∈ d'.kill) ∧
    (∀ r q, (∀ k ∈ d'.kill, ¬ (k.1 = r ∧ k.2.isPrefixOf q = true)) → ∀ z, (Γ.get r).getP q = some z → ∃ z', ((Γ.pend d').get r).getP q = some z' ∧ z'.head = z.head)
  | [], us, pool, d, d', i, zs, h, hb, hk, _, hu, _, ht => by
    simp only [takeTop, Option.some.injEq, Prod.mk.injEq] at ht
    obtain ⟨rfl, rfl⟩ := ht
    cases us with
    | nil => exact ⟨⟨[], h, List.Perm.refl _⟩, trivial, by simp, fun _ hk => hk, hk⟩
    | cons u us => simp [rels] at hu
  | x :: l, us, pool, d, d', i, zs, h, hb, hk, hx, hu, hh, ht => by
    simp only [takeTop] at ht
    split at ht
    · next z d1 h1 =>
      split at ht
      · next zs2 d2 h2 =>
        simp only [Option.some.injEq, Prod.mk.injEq] at ht
        obtain ⟨rfl, rfl⟩ := ht
        cases us with
        | nil => simp [rels] at hu
        | cons u us =>
          obtain ⟨⟨ys1, a1, a2, _⟩, a3, a4, a5⟩ := topSC_ok h hb (fun c hc ho => by subst hc; exact hx 0 c rfl ho) hu.1 (hh x (by simp)) h1
          have hk1 : (∀ k ∈ d.kill, k ∈ d1.kill) ∧ ∀ r q, (∀ k ∈ d1.kill, ¬ (k.1 = r ∧ k.2.isPrefixOf q = true)) → ∀ z, (Γ.get r).getP q = some z → ∃ z', ((Γ.pend d1).get r).getP q = some z' ∧ z'.head = z.head := by
            have hsame : d1 = d → (∀ k ∈ d.kill, k ∈ d1.kill) ∧ ∀ r q, (∀ k ∈ d1.kill, ¬ (k.1 = r ∧ k.2.isPrefixOf q = true)) → ∀ z, (Γ.get r).getP q = some z → ∃ z', ((Γ.pend d1).get r).getP q = some z' ∧ z'.head = z.head := by
              rintro rfl; exact ⟨fun _ h => h, hk⟩
            have htk : ∀ r p, (takeAt Γ d r p).map (fun z => (SC.c z.1, z.2)) = some (z, d1) → (∀ k ∈ d.kill, k ∈ d1.kill) ∧ ∀ r q, (∀ k ∈ d1.kill, ¬ (k.1 = r ∧ k.2.isPrefixOf q = true)) → ∀ z, (Γ.get r).getP q = some z → ∃ z', ((Γ.pend d1).get r).getP q = some z' ∧ z'.head = z.head := by
              intro r p e
              cases hta : takeAt Γ d r p with
              | none => rw [hta] at e; cases e
              | some yd =>
                obtain ⟨y, d3⟩ := yd
                rw [hta] at e
                simp only [Option.map_some, Option.some.injEq, Prod.mk.injEq] at e
                obtain ⟨_, rfl⟩ := e
                refine ⟨?_, pend_keeps hta hk⟩
                obtain ⟨_, _, _, _, e4⟩ := take_ok h hta
                rw [e4]
                exact fun k hk => by simp [hk]
            cases x with
            | c y =>
              simp only [topSC] at h1
              split at h1
              · exact htk _ _ h1
              · simp only [Option.some.injEq, Prod.mk.injEq] at h1; exact hsame h1.2.symm
            | view r p =>
              simp only [topSC] at h1
              split at h1
              · split at h1
                · cases h1
                · exact htk _ _ h1
              · simp only [Option.some.injEq, Prod.mk.injEq] at h1; exact hsame h1.2.symm
            | win r p lo n f => simp only [topSC, Option.some.injEq, Prod.mk.injEq] at h1; exact hsame h1.2.symm
            | ref r p o m => simp only [topSC, Option.some.injEq, Prod.mk.injEq] at h1; exact hsame h1.2.symm
            | fref g row o => simp only [topSC, Option.some.injEq, Prod.mk.injEq] at h1; exact hsame h1.2.symm
            | cut r y ws => simp [topSC] at h1
            | dead => simp only [topSC, Option.some.injEq, Prod.mk.injEq] at h1; exact hsame h1.2.symm
          obtain ⟨⟨ys2, b1, b2⟩, b3, b4, b5, b6⟩ := takeTop_ok l us (ys1 ++ pool) d1 d2 (i + 1) zs2 a1 a3 hk1.2
            (fun k c hkk ho => by have := hx (k + 1) c (by simpa using hkk) ho; rwa [show i + 1 + k = i + (k + 1) by omega]) hu.2 (fun z hz => hh z (by simp [hz])) h2
          refine ⟨⟨ys1 ++ ys2, b1.permL ?_, ?_⟩, ?_, ?_, fun k hkk => b5 k (hk1.1 k hkk), b6⟩
          · rw [List.append_assoc, ← List.append_assoc ys2]
            have e1 : (ys1 ++ (ys2 ++ pool)).Perm (ys2 ++ (ys1 ++ pool)) := by
              rw [← List.append_assoc, ← List.append_assoc]; exact List.Perm.append_right _ List.perm_append_comm
            rw [List.append_assoc]; exact e1
          · simp only [List.map_cons, footL, footL_append, a2]
            exact List.Perm.append_left _ b2
          · refine ⟨?_, b3⟩
            rcases a5 with ⟨rfl, rfl⟩ | ⟨y, rfl, hy⟩
            · exact Back.rel b6 hu.1
            · rw [kill_c]; exact .inr hy
          · intro q hq
            rcases List.mem_cons.1 hq with rfl | hq
            · exact a4
            · exact b4 q hq
      · cases ht
    · cases ht

theorem top_view {v : SV Gh} {r : Nat} (h : v.top = .view r) : v.k = .one ∧ v.cs = [.view r [0]] := by
  unfold SV.top at h
  cases hk : v.k with
  | one =>
    rw [hk] at h
    simp only at h
    cases hc : v.cs with
    | nil => rw [hc] at h; simp at h
    | cons x l =>
      rw [hc] at h
      cases l with
      | cons y l => simp at h
      | nil =>
        cases x with
        | view r' p =>
          simp only [scTop] at h
          split at h
          · next hp => simp only [Top.view.injEq] at h; subst h; subst hp; exact ⟨rfl, rfl⟩
          · cases h
        | win r' p lo n f => simp only [scTop] at h; split at h <;> cases h
        | _ => simp [scTop] at h
  | _ => rw [hk] at h; simp at h
theorem top_win {v : SV Gh} {r lo n : Nat} (h : v.top = .win r lo n) : v.k = .one ∧ ∃ f, v.cs = [.win r [0] lo n f] := by
  unfold SV.top at h
  cases hk : v.k with
  | one =>
    rw [hk] at h
    simp only at h
    cases hc : v.cs with
    | nil => rw [hc] at h; simp at h
    | cons x l =>
      rw [hc] at h
      cases l with
      | cons y l => simp at h
      | nil =>
        cases x with
        | win r' p lo' n' f =>
          simp only [scTop] at h
          split at h
          · next hp => simp only [Top.win.injEq] at h; obtain ⟨rfl, rfl, rfl⟩ := h; subst hp; exact ⟨rfl, f, rfl⟩
          · cases h
        | view r' p => simp only [scTop] at h; split at h <;> cases h
        | _ => simp [scTop] at h
  | _ => rw [hk] at h; simp at h

/-- Laying two slots one behind the other. -/
theorem done_back {w0 : W0} {w : World} {Γ : St Gh} {tm : Array Value} {D : List (Nat × List Nat)} {y : GC} (h : Inv w0 (Γ.kill D) [y] tm w) (hyo : y.isOwn = true) {t r : Nat} (ht : t < tm.size) (hrt : r ≠ t)
    (hr : ((Γ.kill D).get r).k = .one ∧ ∃ x, ((Γ.kill D).get r).cs = [x]) (hv : tm.getD r undef = y.val) (hfr : footV ((Γ.kill D).get r) = []) (hD : ∀ s x, x ∈ ((Γ.kill D).get s).cs → x.root ≠ some r) :
    Inv w0 (((Γ.kill ((t, []) :: D)).put t (one (.c y))).put r (one (.view t [0]))) [] (tm.setIfInBounds t y.val) w := by
  have h1 := done_one h ht
  have e1 : ∀ v : SV Gh, (v.kill D).kill [(t, [])] = v.kill ((t, []) :: D) := by
    intro v; rw [kill_kill]; exact kill_mem (by simp [or_comm]) v
  have h2 : Inv w0 ((Γ.kill ((t, []) :: D)).put t (one (.c y))) [] (tm.setIfInBounds t y.val) w := h1.congr (fun s => by
    by_cases hs : s = t
    · subst hs; rw [get_kill, get_put, get_put, if_pos rfl, if_pos rfl]; simp [one, SV.kill, kill_c]
    · rw [get_kill, get_put, get_put, if_neg hs, if_neg hs, get_kill])
  have hroots : ∀ s x, x ∈ (((Γ.kill ((t, []) :: D)).put t (one (.c y))).get s).cs → x.root ≠ some r := by
    intro s x hx
    rw [get_put] at hx
    split at hx
    · simp only [one, List.mem_singleton] at hx; subst hx; simp [SC.root]
    · rw [get_kill, ← e1] at hx
      simp only [SV.kill, List.map_map, List.mem_map] at hx
      obtain ⟨z, hz, rfl⟩ := hx
      have hz2 : z.kill D ∈ ((Γ.kill D).get s).cs := by rw [get_kill]; simp only [SV.kill]; exact List.mem_map.2 ⟨z, hz, rfl⟩
      have := hD s _ hz2
      simp only [Function.comp]
      rcases kill_eq [(t, [])] (z.kill D) with e | e <;> rw [e]
      · exact this
      · simp [SC.root]
  have hclear : Clear ((Γ.kill ((t, []) :: D)).put t (one (.c y))) r [] := by
    intro s x hx
    have := hroots s x hx
    cases hd : x.dies r [] with
    | false => rfl
    | true => exact absurd (root_dies hd) this
  by_cases hrs : r < tm.size
  · have h3 := Inv.put (ys := []) (xs := []) (s := r) (v := one (.view t [0])) (u := tm.getD r undef) (by simpa using h2) hclear (by simpa using hrs) (by intro x hx; simp only [one, List.mem_singleton] at hx; subst hx; simp only [SC.root]; intro e; exact hrt (Option.some.inj e).symm)
      ⟨[y.val], ⟨⟨y, by rw [get_put, if_pos rfl]; rfl, hyo, rfl⟩, trivial⟩, by rw [hv]; rfl⟩ (by intro x hx; simp only [one, List.mem_singleton] at hx; subst hx; trivial) (by simp [footV, one, SC.cell, footL, foot])
    have e : (tm.setIfInBounds t y.val).setIfInBounds r (tm.getD r undef) = tm.setIfInBounds t y.val := by
      apply Array.ext_getElem?
      intro i
      rw [Array.getElem?_setIfInBounds]
      by_cases hri : r = i
      · subst hri
        have htr : ¬ t = r := fun e => hrt e.symm
        simp [Array.getElem?_setIfInBounds, htr, Array.getD, hrs]
      · rw [if_neg hri]
    rw [e] at h3
    exact h3
  · -- the slot lies beyond the frame: it has no value of its own
    have hund : tm.getD r undef = undef := by simp [Array.getD, hrs]
    rw [hund] at hv
    exfalso
    have := isDead_own hyo
    cases y <;> simp_all [Cell.val, undef, Cell.isDead, Cell.isOwn]
end Go.Proofs.Ytnmocjhpbobahaa.L
namespace Go.Proofs.Ytnmocjhpbobahaa.L
open Go Go.RowKit

theorem set_same {tm : Array Value} {t : Nat} {u : Value} (h : tm.getD t undef = u) : tm.setIfInBounds t u = tm := by
  apply Array.ext_getElem?
  intro i
  rw [Array.getElem?_setIfInBounds]
  by_cases hti : t = i
  · subst hti
    rw [if_pos rfl]
    by_cases hl : t < tm.size
    · simp [hl, ← h, Array.getD]
    · simp [hl]
  · rw [if_neg hti]

theorem pend_one {Γ : St Gh} {r : Nat} {p : List Nat} {y : GC} {d : Pend Gh} (ht : takeAt Γ pend0 r p = some (y, d)) : d = ⟨[(r, (Γ.get r).setP p .dead)], [(r, p)]⟩ ∧ (Γ.get r).getP p = some y ∧ y.isOwn = true := by
  unfold takeAt at ht
  split at ht
  · next z hz =>
    split at ht
    · next ho =>
      simp only [Option.some.injEq, Prod.mk.injEq] at ht
      obtain ⟨rfl, rfl⟩ := ht
      exact ⟨rfl, hz, ho⟩
    · cases ht
  · cases ht
theorem pend0_inv {w0 : W0} {w : World} {Γ : St Gh} {tm : Array Value} (h : Inv w0 Γ [] tm w) : Inv w0 (Γ.pend pend0) [] tm w := h.congr (pend0_get Γ)
theorem pend0_back (Γ : St Gh) : Back Γ (Γ.pend pend0) := fun r q z hz ho => ⟨z, by rw [pend0_get] at hz; exact hz, rfl⟩

theorem narrow {w : World} {sz lo n : Nat} {n0 : Zn} {g : Gh} {row : List GC} {full : Bool} {a' : Option Addr} {cap' : Nat} (h : holds w n0 (.sl true sz g row)) (hl : lo + n ≤ row.length) (h1 : lo % sz = 0) (h2 : n % sz = 0)
    (w1 : n / sz ≤ cap') (w3 : lo / sz + cap' ≤ g.cap) (w4 : (a' = g.a.map (·.add lo)) ∨ (cap' = 0 ∧ ∃ k, k ≤ g.cap * sz ∧ a' = g.a.map (·.add k))) :
    holds w n0 (.sl true sz ⟨a', cap'⟩ ((row.drop lo).take n)) ∧ (∃ D, (foot (.sl true sz ⟨a', cap'⟩ ((row.drop lo).take n)) ++ D).Perm (foot (.sl true sz g row))) ∧ Cell.val (.sl true sz ⟨a', cap'⟩ ((row.drop lo).take n)) = .slice a' (n / sz) cap' := by
  obtain ⟨q1, q2, q3⟩ := h
  have hsz := q1.1
  have hlen : ((row.drop lo).take n).length = n := by simp; omega
  have hget : ∀ i c, ((row.drop lo).take n)[i]? = some c → row[lo + i]? = some c := by
    intro i c hi
    rw [List.getElem?_take] at hi
    split at hi
    · rw [List.getElem?_drop] at hi; exact hi
    · cases hi
  have hmem : ∀ c ∈ (row.drop lo).take n, c ∈ row := fun c hc => List.mem_of_mem_drop (List.mem_of_mem_take hc)
  have hloc : lo + cap' * sz ≤ g.cap * sz := by
    have e1 := Nat.div_add_mod lo sz
    rw [h1] at e1
    have e2 := Nat.mul_le_mul_right sz w3
    rw [Nat.add_mul, Nat.mul_comm (lo / sz) sz] at e2
    omega
  have hn : n ≤ cap' * sz := by
    have e1 := Nat.div_add_mod n sz
    rw [h2] at e1
    have e2 := Nat.mul_le_mul_right sz w1
    rw [Nat.mul_comm (n / sz) sz] at e2
    omega
  refine ⟨⟨⟨hsz, by rw [hlen]; exact h2, by rw [hlen]; exact w1, by simp⟩, ?_, ?_⟩, ?_, by simp only [Cell.val]; rw [hlen]⟩
  · cases hga : g.a with
    | none =>
      rw [hga] at q2 w4
      obtain ⟨q4, q5⟩ := q2
      have ha' : a' = none := by rcases w4 with w4 | ⟨_, k, _, w4⟩ <;> simpa using w4
      subst ha'
      refine ⟨by rw [q4]; simp, ?_⟩
      have : cap' * sz = 0 := by omega
      exact this
    | some a =>
      rw [hga] at q2 w4
      obtain ⟨q4', q5, q6⟩ := q2
      have q4 := q4' (.inl rfl)
      simp only [if_true] at q6
      obtain ⟨q7, q8, cs, e, q9, q10⟩ := q6
      rcases w4 with w4 | ⟨w4, k, w5, w6⟩
      · subst w4
        refine ⟨fun _ => add_spot q4 _, ?_, ?_⟩
        · intro i c hi
          rw [add_add q4]
          exact q5 _ c (hget i c hi)
        · simp only [if_true]
          rw [add_block, add_off]
          exact ⟨q7, by rw [hlen]; exact hn, cs, e, q9, by omega⟩
      · subst w6
        have hn0 : n = 0 := by rw [w4] at hn; omega
        refine ⟨fun _ => add_spot q4 _, ?_, ?_⟩
        · intro i c hi
          rw [hn0] at hi; simp at hi
        · simp only [if_true]
          rw [add_block, add_off]
          exact ⟨q7, by rw [hlen]; exact hn, cs, e, q9, by rw [w4]; omega⟩
  · rw [holdsL_iff] at q3 ⊢
    exact fun c hc => q3 c (hmem c hc)
  · have hb : blockOf true (⟨a', cap'⟩ : Gh) = blockOf true g := by
      unfold blockOf
      simp only [if_true]
      cases hga : g.a with
      | none =>
        have ha' : a' = none := by rw [hga] at w4; rcases w4 with w4 | ⟨_, k, _, w4⟩ <;> simpa using w4
        rw [ha']
      | some a =>
        rw [hga] at w4
        rcases w4 with w4 | ⟨_, k, _, w4⟩ <;> (rw [w4]; simp [add_block])
    have hrow : row = row.take lo ++ ((row.drop lo).take n ++ (row.drop lo).drop n) := by
      rw [List.take_append_drop, List.take_append_drop]
    refine ⟨footL (row.take lo) ++ footL ((row.drop lo).drop n), ?_⟩
    simp only [foot]
    rw [hb, List.append_assoc]
    refine List.Perm.append_left _ ?_
    have e2 : footL row = footL (row.take lo) ++ (footL ((row.drop lo).take n) ++ footL ((row.drop lo).drop n)) := by
      rw [← footL_append, ← footL_append, ← hrow]
    rw [e2, ← List.append_assoc, ← List.append_assoc]
    exact List.Perm.append_right _ List.perm_append_comm

theorem assign_ok {w0 : W0} {w : World} {Γ : St Gh} {tm : Array Value} (h : Inv w0 Γ [] tm w) {P : Program} {t ty : Nat} {x : Operand} (ht : t < tm.size) (a0 : Gh) (hs : (effAssign P (goodΩ a0) Γ t ty x).isSome) :
    ∃ a, ∀ ef, effAssign P (goodΩ a) Γ t ty x = some ef → Inv w0 (Γ.app ef) [] (tm.setIfInBounds t (ev tm x)) w := by
  have hconst : ∀ v : SV Gh, (∀ s, x ≠ .tmp s) → opd P (goodΩ gnil) Γ ty x = some v → Inv w0 (Γ.app (effPut t v)) [] (tm.setIfInBounds t (ev tm x)) w := by
    intro v hx hv
    obtain ⟨h1, h2⟩ := opd_ok h rfl hv
    refine done_view h ht h1 h2 ?_
    cases x with
    | tmp s => exact absurd rfl (hx s)
    | const u =>
      obtain ⟨cs, e1, _, e3, _⟩ := constSV_ok (w := w) (n0 := w0.zn) hv
      unfold footV
      rw [e1, List.map_map]
      have : (SC.cell ∘ SC.c : GC → GC) = id := rfl
      rw [this, List.map_id]
      exact e3
    | global g => simp [opd] at hv
    | func f => simp [opd] at hv
  cases x with
  | const u =>
    refine ⟨gnil, fun ef he => ?_⟩
    simp only [effAssign] at he
    split at he
    · next v hv => simp only [Option.some.injEq] at he; subst he; exact hconst v (by simp) hv
    · cases he
  | global g =>
    refine ⟨gnil, fun ef he => ?_⟩
    simp [effAssign, opd] at he
  | func f =>
    refine ⟨gnil, fun ef he => ?_⟩
    simp [effAssign, opd] at he
  | tmp s =>
    simp only [effAssign] at hs ⊢
    by_cases hst : s = t
    · simp [hst] at hs
    · simp only [hst, if_false] at hs ⊢
      cases htop : (Γ.get s).top with
      | view r =>
        obtain ⟨hk, hc⟩ := top_view htop
        obtain ⟨y0, hy0, hyo, hv0⟩ := one_val hk hc (h.rel s)
        simp only
        by_cases hrt : r = t
        · subst hrt
          refine ⟨gnil, fun ef he => ?_⟩
          simp only [if_true] at he
          split at he
          · next hkk =>
            simp only [Option.some.injEq] at he
            subst he
            have hcs : ∃ z, (Γ.get r).cs = [z] := by
              cases hq : (Γ.get r).cs with
              | nil => rw [hq] at hkk; simp at hkk
              | cons z l => cases l with
                | nil => exact ⟨z, rfl⟩
                | cons z2 l => rw [hq] at hkk; simp at hkk
            obtain ⟨z, hz⟩ := hcs
            have hz2 := one_val hkk.1 hz (h.rel r)
            have hzc : z = .c y0 := by
              simp only [SV.getP, hz, List.getElem?_cons_zero] at hy0
              cases z with
              | c q => simp only [Cell.getC, Option.some.injEq] at hy0; rw [hy0]
              | _ => simp at hy0
            rw [hzc] at hz2
            have hsame : tm.getD r undef = ev tm (.tmp s) := by
              rcases hz2 with hz2 | hz2
              · rw [isDead_own hyo] at hz2; cases hz2
              · rw [hz2]; exact hv0.symm
            rw [set_same hsame]
            exact h
          · cases he
        · refine ⟨gnil, fun ef he => ?_⟩
          simp only [hrt, if_false] at he
          cases hta : takeAt Γ pend0 r [0] with
          | none => rw [hta] at he; cases he
          | some yd =>
            obtain ⟨y, d⟩ := yd
            rw [hta] at he
            simp only [Option.some.injEq] at he
            subst he
            obtain ⟨e1, e2, e3⟩ := pend_one hta
            rw [e2] at hy0
            have hyy : y = y0 := Option.some.inj hy0
            subst hyy
            obtain ⟨a1, a2, a3, a4, _⟩ := take_ok (pend0_inv h) hta
            have hev : ev tm (.tmp s) = y.val := hv0
            rw [hev]
            have hpend : Γ.pend d = (Γ.put r ((Γ.get r).setP [0] .dead)).kill [(r, [0])] := by rw [e1]; rfl
            rw [hpend] at a1
            have hd1 := done_one a1 ht
            split
            · next hkk =>
              obtain ⟨k1, k2, k3⟩ := hkk
              have hcs : ∃ z, (Γ.get r).cs = [z] := by
                cases hq : (Γ.get r).cs with
                | nil => rw [hq] at k2; simp at k2
                | cons z l => cases l with
                  | nil => exact ⟨z, rfl⟩
                  | cons z2 l => rw [hq] at k2; simp at k2
              obtain ⟨z, hz⟩ := hcs
              have hzc : z = .c y := by
                simp only [SV.getP, hz, List.getElem?_cons_zero] at e2
                cases z with
                | c q => simp only [Cell.getC, Option.some.injEq] at e2; rw [e2]
                | _ => simp at e2
              subst hzc
              have hset : (Γ.get r).setP [0] .dead = ⟨.one, [.c .dead]⟩ := by
                simp only [SV.setP, hz, List.getElem?_cons_zero, k1, List.set_cons_zero, Cell.setC]
              have hget : (((Γ.put r ((Γ.get r).setP [0] .dead)).kill [(r, [0])]).get r) = ⟨.one, [.c .dead]⟩ := by
                rw [get_kill, get_put, if_pos rfl, hset]; simp [SV.kill, kill_c]
              have hb := done_back a1 a4 ht hrt (by rw [hget]; exact ⟨rfl, _, rfl⟩) (by
                have := one_val k1 hz (h.rel r)
                rcases this with q | q
                · rw [isDead_own a4] at q; cases q
                · exact q) (by rw [hget]; rfl) (by
                intro s' x' hx' hroot
                obtain ⟨vs, q1, _⟩ := a1.rel s'
                obtain ⟨i, hi, hxi⟩ := List.mem_iff_getElem.1 hx'
                obtain ⟨u, _, q2⟩ := rels_get q1 (i := i) (x := x') (by rw [List.getElem?_eq_getElem hi, hxi])
                have hnone : ∀ p z', (((Γ.put r ((Γ.get r).setP [0] .dead)).kill [(r, [0])]).get r).getP p = some z' → z'.isOwn = false := by
                  intro p z' hz'
                  rw [hget] at hz'
                  cases p with
                  | nil => simp [SV.getP] at hz'
                  | cons j q =>
                    cases j with
                    | succ j => simp [SV.getP] at hz'
                    | zero =>
                      simp only [SV.getP, List.getElem?_cons_zero] at hz'
                      cases q with
                      | nil => simp only [Cell.getC, Option.some.injEq] at hz'; subst hz'; rfl
                      | cons j q => simp [Cell.getC, Cell.isOwn] at hz'
                cases x' with
                | view r' p =>
                  simp only [SC.root, Option.some.injEq] at hroot
                  subst hroot
                  obtain ⟨y', g1, g2, _⟩ := q2
                  rw [hnone p y' g1] at g2; cases g2
                | win r' p lo n f =>
                  simp only [SC.root, Option.some.injEq] at hroot
                  subst hroot
                  obtain ⟨y', g1, sz, g, len, g2, _⟩ := q2
                  have := hnone p y' g1
                  cases y' <;> simp_all [Cell.head, Cell.isOwn]
                | ref r' p off m =>
                  simp only [SC.root, Option.some.injEq] at hroot
                  subst hroot
                  obtain ⟨y', g1, g2, _⟩ := q2
                  rw [hnone p y' g1] at g2; cases g2
                | cut r' y ws =>
                  obtain ⟨hroot, e, he⟩ := cut_rooted hroot
                  subst hroot
                  have := q2.2 e he
                  obtain ⟨z1, z2, z3⟩ := part_own this
                  rw [hnone _ z1 z2] at z3; cases z3
                | _ => simp [SC.root] at hroot)
              refine hb.congr ?_
              intro s'
              rw [e1]
              rfl
            · refine hd1.congr ?_
              intro s'
              rw [e1]
              show (((Γ.put r ((Γ.get r).setP [0] .dead)).kill ((t, []) :: [(r, [0])])).put t (one (.c y))).get s' = _
              by_cases hs' : s' = t
              · subst hs'; rw [get_put, if_pos rfl, get_kill, get_put, if_pos rfl]; simp [one, SV.kill, kill_c]
              · rw [get_put, if_neg hs', get_kill, get_kill, get_put (s := t), if_neg hs']
      | win r lo n =>
        obtain ⟨hk, f, hc⟩ := top_win htop
        have hrel := one_val hk hc (h.rel s)
        obtain ⟨y0, hy0, sz, g, len, e, h2, h3, h4, h5⟩ := hrel
        obtain ⟨a', cap', hv, w1, w2, w3, w4⟩ := h5
        simp only
        by_cases hrt : r = t
        · subst hrt
          refine ⟨⟨a', cap'⟩, fun ef he => ?_⟩
          simp only [if_true] at he
          split at he
          · next sz' g' row hg =>
            split at he
            · next hkk =>
              split at he
              · next y d hta =>
                simp only [Option.some.injEq] at he
                subst he
                obtain ⟨e1, e2, e3⟩ := pend_one hta
                rw [hg] at hy0 e2
                cases hy0
                simp only [Option.some.injEq] at e2
                subst e2
                simp only [Cell.head, Prod.mk.injEq, true_and] at e
                obtain ⟨rfl, rfl, rfl⟩ := e
                obtain ⟨a1, a2, a3, a4, _⟩ := take_ok (pend0_inv h) hta
                obtain ⟨n1, ⟨D, n2⟩, n3⟩ := narrow (full := f) a1.pool.1 h2 h3 h4 w1 w3 w4
                have hsub := a1.sub (ys := [.sl true sz' ⟨a', cap'⟩ ((row.drop lo).take n)]) ⟨D, by simpa [footL] using n2⟩ ⟨n1, trivial⟩
                have hpend : Γ.pend d = (Γ.put r ((Γ.get r).setP [0] .dead)).kill [(r, [0])] := by rw [e1]; rfl
                rw [hpend] at hsub
                have hd1 := done_one hsub ht
                rw [n3] at hd1
                have hev : ev tm (.tmp s) = .slice a' (n / sz') cap' := hv
                rw [hev]
                refine hd1.congr ?_
                intro s'
                rw [e1]
                show (((Γ.put r ((Γ.get r).setP [0] .dead)).kill ((r, []) :: [(r, [0])])).put r (one (.c (.sl true sz' ⟨a', cap'⟩ ((row.drop lo).take n))))).get s' = _
                by_cases hs' : s' = r
                · subst hs'; rw [get_put, if_pos rfl, get_kill, get_put, if_pos rfl]; simp [one, SV.kill, kill_c]
                · rw [get_put, if_neg hs', get_kill, get_kill, get_put (s := r) (v := one _), if_neg hs']
              · cases he
            · cases he
          · cases he
        · refine ⟨gnil, fun ef he => ?_⟩
          simp only [hrt, if_false, Option.some.injEq] at he
          subst he
          refine done_view h ht (h.rel s) (h.hold s) ?_
          unfold footV; rw [hc]; rfl
      | other =>
        refine ⟨gnil, fun ef he => ?_⟩
        simp only at he
        cases hta : takeTop Γ s t pend0 0 (Γ.get s).cs with
        | none => rw [hta] at he; cases he
        | some zd =>
          obtain ⟨zs, d⟩ := zd
          rw [hta] at he
          simp only [Option.some.injEq] at he
          subst he
          obtain ⟨us, u1, u2⟩ := h.rel s
          obtain ⟨⟨ys, a1, a2⟩, a3, a4, _, _⟩ := takeTop_ok (Γ.get s).cs us [] pend0 d 0 zs (pend0_inv h) (pend0_back Γ) (fun r q _ z hz => ⟨z, by rw [pend0_get]; exact hz, rfl⟩) (fun k c hk _ => by simpa using hk) u1 (h.hold s) hta
          rw [app_fin]
          rw [List.append_nil] at a1
          exact done_putK a1 ht ⟨us, a3, u2⟩ a4 a2
end Go.Proofs.Ytnmocjhpbobahaa.L
namespace Go.Proofs.Ytnmocjhpbobahaa.L
open Go Go.RowKit

theorem oneCell_eq {v : Value} (h : oneCell v = true) : v.oneCell' = true := by cases v <;> simp_all [oneCell, Value.oneCell']

/-- Cells are stored one behind the other. -/
theorem run_stores {P : Program} {w : World} {a : Addr} (hs : a.spot = none) {cur : Array Value} {e : TypeId} (hg : w.heap[a.block]? = some (.cells cur e (0, 0))) (k : Nat) (vs : List Value) (hfit : a.off + k + vs.length ≤ cur.size)
    (h1 : ∀ v ∈ vs, oneCell v = true) : ∃ w', (storeCells (a.add k) vs).run P w = .ok () w' ∧ Only w w' a.block ∧ (∀ i, k ≤ i → i < k + vs.length → w'.cell? (a.add i) = vs[i - k]?) ∧ (∀ i, i < k ∨ k + vs.length ≤ i → w'.cell? (a.add i) = w.cell? (a.add i)) := by
  have e1 : a.add k = ⟨a.block, a.off + k, none⟩ := by unfold Addr.add; split <;> (cases a; simp_all)
  have hr := run_storeCells_at P a.block (a.off + k) e vs 0 cur w hg (by omega) (fun v hv => oneCell_eq (h1 v hv))
  rw [e1]
  refine ⟨_, hr, ?_, ?_, ?_⟩
  · refine ⟨fun b hb => setRow_other w a.block b _ hb, rfl, rfl, rfl, by simp, ?_⟩
    intro cs e' h
    rw [hg] at h
    simp only [Option.some.injEq, Obj.cells.injEq, and_true] at h
    obtain ⟨rfl, rfl⟩ := h
    refine ⟨_, ?_, setRow_heap w a.block cur _ e _ hg⟩
    simp only [List.size_toArray, List.length_append, List.length_take, List.length_drop, Array.length_toList]
    omega
  · intro i h2 h3
    have e2 : a.add i = ⟨a.block, a.off + i, none⟩ := by unfold Addr.add; split <;> (cases a; simp_all)
    rw [e2, cell_setRow_same w a.block (a.off + i) cur _ e _ hg]
    have hl : (cur.toList.take (a.off + k + 0)).length = a.off + k := by simp; omega
    simp only [List.getElem?_toArray]
    rw [List.append_assoc, List.getElem?_append_right (by rw [hl]; omega), hl, List.getElem?_append_left (by omega)]
    congr 1
    omega
  · intro i h2
    have e2 : a.add i = ⟨a.block, a.off + i, none⟩ := by unfold Addr.add; split <;> (cases a; simp_all)
    rw [e2, cell_setRow_same w a.block (a.off + i) cur _ e _ hg]
    have hl : (cur.toList.take (a.off + k + 0)).length = a.off + k := by simp; omega
    have hcell : w.cell? ⟨a.block, a.off + i, none⟩ = cur[a.off + i]? := by simp [World.cell?, hg]
    rw [hcell]
    simp only [List.getElem?_toArray]
    rcases h2 with h2 | h2
    · rw [List.append_assoc, List.getElem?_append_left (by rw [hl]; omega), List.getElem?_take, if_pos (by omega)]
      simp
    · rw [List.append_assoc, List.getElem?_append_right (by rw [hl]; omega), hl, List.getElem?_append_right (by omega), List.getElem?_drop]
      rw [← Array.getElem?_toList]
      congr 1
      omega

theorem setRun_get {β : Type} : ∀ (ys l : List β) (off i : Nat), off + ys.length ≤ l.length → (setRun l off ys)[i]? = if off ≤ i ∧ i < off + ys.length then ys[i - off]? else l[i]?
  | [], l, off, i, _ => by
    simp only [setRun, List.length_nil, Nat.add_zero]
    rw [if_neg (by omega)]
  | y :: ys, l, off, i, h => by
    simp only [List.length_cons] at h
    simp only [setRun]
    rw [setRun_get ys (l.set off y) (off + 1) i (by simp; omega)]
    simp only [List.length_cons]
    by_cases h1 : off + 1 ≤ i ∧ i < off + 1 + ys.length
    · rw [if_pos h1, if_pos (by omega)]
      have : i - off = (i - (off + 1)) + 1 := by omega
      rw [this, List.getElem?_cons_succ]
    · rw [if_neg h1]
      by_cases h2 : i = off
      · subst h2
        rw [if_pos (by omega), List.getElem?_set_self (by omega)]
        simp
      · rw [if_neg (by omega), List.getElem?_set, if_neg (fun e => h2 e.symm)]

theorem store_ok {w0 : W0} {w : World} {Γ : St Gh} {tm : Array Value} (h : Inv w0 Γ [] tm w) {P : Program} {Ω : Orc Gh} (hn : Ω.nil = gnil) {ty : Nat} {x y : Operand} {ef : Eff Gh} (he : effStore P Ω Γ ty x y = some ef) :
    ∃ w', (Instr.storeAt ty (ev tm x) (ev tm y)).run P w = .ok () w' ∧ Inv w0 (Γ.app ef) [] tm w' := by
  unfold effStore at he
  split at he
  · next r p off v had hv =>
    split at he
    · next l d hl =>
      split at he
      · next hc =>
        split at he
        · next c hcg =>
          split at he
          · next hco =>
            simp only [Option.some.injEq] at he
            subst he
            obtain ⟨c1, c2, c3⟩ := hc
            obtain ⟨o1, o2⟩ := hco
            obtain ⟨y0, a, hy0, hyo, ha, hvx⟩ := adOf_ok h had
            obtain ⟨⟨us, u1, u2⟩, u3⟩ := opd_ok h hn hv
            obtain ⟨a1, a2, a3, a4⟩ := takeFrom_ok hn h hv u1 (pend0_inv h) (pend0_back Γ) hl
            rw [List.append_nil] at a1
            have hcell : ((Γ.pend d).get r).getP p = some c := by rw [pend_get, getP_kill]; exact hcg
            obtain ⟨z, z1, z2⟩ := a2 r p c hcell o1
            rw [hy0] at z1
            cases z1
            have hga : c.gh.a = some a := by
              have : c.gh = y0.gh := by cases c <;> cases y0 <;> simp_all [Cell.head, Cell.gh, Cell.isOwn]
              rw [this]; exact ha
            have hch : holds w w0.zn c := a1.cell hcell
            obtain ⟨b1, b2, room, b3, _, cur, e, b4, b5⟩ := own_base hch o1 hga
            have hvals : ∀ u ∈ us, oneCell u = true := by
              intro u hu
              rw [a3] at hu
              obtain ⟨q, hq, rfl⟩ := List.mem_map.1 hu
              exact val_oneCell (holdsL_iff.1 a1.pool q hq) (a4 q hq)
            have hcells : (ev tm y).cells.toList = us := by rw [u2]; exact okPart_cells c3 u1 u3
            have hul : us.length = l.length := by rw [a3]; simp
            obtain ⟨inf, hinf, hisz⟩ := cellsOf_info c2
            have hsz := run_sizeOf hinf w
            obtain ⟨w', w1, w2, w3, w4⟩ := run_stores (P := P) b1 b4 off us (by rw [hul]; omega) hvals
            refine ⟨w', ?_, ?_⟩
            · rw [hvx]
              have hsize : (ev tm y).cells.size = P.cellsOf ty := by rw [← Array.length_toList, hcells, hul, c1]
              simp [Instr.storeAt, Instr.sureAddr, storeVar, hsz, hsize, hcells, w1]
            · have hI := (a1.kill ((List.range l.length).map (fun j => (r, p ++ [off + j]))))
              have hcell2 : (((Γ.pend d).kill ((List.range l.length).map (fun j => (r, p ++ [off + j])))).get r).getP p = some c := by rw [get_kill, getP_kill]; exact hcell
              have hrw := Inv.rewrite (ys := l) (xs := []) (l := setRun c.row off l) (a := a) (by simpa using hI) hcell2 o1 hga (setRun_length _ _ _) w2 ?_ ?_ ?_ ?_
              · refine hrw.congr ?_
                intro s
                have e1 : ∀ v : SV Gh, (v.kill d.kill).kill ((List.range l.length).map (fun j => (r, p ++ [off + j]))) = v.kill ((List.range l.length).map (fun j => (r, p ++ [off + j])) ++ d.kill) := by
                  intro v; rw [kill_kill]; exact kill_mem (by simp [or_comm]) v
                simp only [St.app, putAll_append, putAll]
                rw [get_kill, get_put, get_put]
                split
                · rw [get_kill, pend_get, e1, setP_kill]
                · rw [get_kill, pend_get, e1, ovGet_putAll]
              · intro i
                by_cases hi : off ≤ i ∧ i < off + l.length
                · right
                  refine kill_clear _ _ r (p ++ [i]) (List.mem_map.2 ⟨i - off, by simp; omega, ?_⟩)
                  rw [show off + (i - off) = i by omega]
                · left
                  rw [setRun_get _ _ _ _ o2, if_neg hi]
              · intro i q hq
                rw [setRun_get _ _ _ _ o2] at hq
                by_cases hi : off ≤ i ∧ i < off + l.length
                · rw [if_pos hi] at hq
                  refine ⟨q.val, ?_, .inr rfl⟩
                  rw [w3 i hi.1 (by rw [hul]; exact hi.2), a3, List.getElem?_map, hq]; rfl
                · rw [if_neg hi] at hq
                  obtain ⟨a', ha', _, v', v1, v2⟩ := base_cell hch hq
                  rw [hga] at ha'; cases ha'
                  exact ⟨v', by rw [w4 i (by rw [hul]; omega)]; exact v1, v2⟩
              · intro q hq; exact setRun_mem _ _ _ _ hq
              · exact setRun_foot l c.row off o2
          · cases he
        · cases he
      · cases he
    · cases he
  · cases he

theorem clear_of_notown {w0 : W0} {w : World} {Γ : St Gh} {xs : List GC} {tm : Array Value} (h : Inv w0 Γ xs tm w) {r : Nat} {p : List Nat} (hp : ∀ q z, p.isPrefixOf q = true → (Γ.get r).getP q = some z → z.isOwn = false) : Clear Γ r p := by
  intro s x hx
  obtain ⟨vs, q1, _⟩ := h.rel s
  obtain ⟨i, hi, hxi⟩ := List.mem_iff_getElem.1 hx
  obtain ⟨u, _, q2⟩ := rels_get q1 (i := i) (x := x) (by rw [List.getElem?_eq_getElem hi, hxi])
  cases hd : x.dies r p with
  | false => rfl
  | true =>
    cases x with
    | view r' q =>
      simp only [SC.dies, Bool.and_eq_true, beq_iff_eq] at hd
      obtain ⟨rfl, hd⟩ := hd
      obtain ⟨y, g1, g2, _⟩ := q2
      rw [hp q y hd g1] at g2; cases g2
    | win r' q lo n f =>
      simp only [SC.dies, Bool.and_eq_true, beq_iff_eq] at hd
      obtain ⟨rfl, hd⟩ := hd
      obtain ⟨y, g1, sz, g, len, g2, _⟩ := q2
      have := hp q y hd g1
      cases y <;> simp_all [Cell.head, Cell.isOwn]
    | ref r' q off m =>
      simp only [SC.dies, Bool.and_eq_true, beq_iff_eq] at hd
      obtain ⟨rfl, hd⟩ := hd
      obtain ⟨y, g1, g2, _⟩ := q2
      rw [hp q y hd g1] at g2; cases g2
    | cut r' y ws =>
      simp only [SC.dies, Bool.and_eq_true, beq_iff_eq] at hd
      obtain ⟨rfl, hd⟩ := hd
      obtain ⟨e, he, hd⟩ := List.any_eq_true.1 hd
      obtain ⟨z, g1, g2⟩ := part_own (q2.2 e he)
      rw [hp _ z hd g1] at g2; cases g2
    | _ => simp [SC.dies] at hd
theorem getC_append : ∀ (p q : List Nat) (c d : GC), c.getC p = some d → c.getC (p ++ q) = d.getC q
  | [], q, c, d, h => by simp only [Cell.getC, Option.some.injEq] at h; subst h; rfl
  | j :: p, q, c, d, h => by
    obtain ⟨ho, e, he, hd⟩ := getC_cons h
    rw [List.cons_append, getC_cons_eq ho he]
    exact getC_append p q e d hd
theorem getP_append {v : SV Gh} {p q : List Nat} {d : GC} (h : v.getP p = some d) : v.getP (p ++ q) = d.getC q := by
  cases p with
  | nil => simp [SV.getP] at h
  | cons j p =>
    obtain ⟨x, hx, hd⟩ := getP_cell h
    simp only [List.cons_append, SV.getP, hx]
    exact getC_append p q x d hd
theorem clear_copyable {w0 : W0} {w : World} {Γ : St Gh} {xs : List GC} {tm : Array Value} (h : Inv w0 Γ xs tm w) {r i : Nat} {p : List Nat} {c : GC} (hc : (Γ.get r).getP p = some c) (hx : ∀ x, c.row[i]? = some x → x.copyable = true) : Clear Γ r (p ++ [i]) := by
  refine clear_of_notown h ?_
  intro q z hq hz
  obtain ⟨q', rfl⟩ := List.isPrefixOf_iff_prefix.1 hq
  rw [List.append_assoc, getP_append hc] at hz
  obtain ⟨ho, e, he, hz2⟩ := getC_cons hz
  have he' := hx e he
  have heo : e.isOwn = false := by cases e <;> simp_all [Cell.copyable, Cell.isOwn]
  cases q' with
  | nil =>
    have hz3 : e.getC [] = some z := hz2
    simp only [Cell.getC, Option.some.injEq] at hz3
    subst hz3
    exact heo
  | cons k q' =>
    have hz3 : e.getC (k :: q') = some z := hz2
    obtain ⟨ho2, _⟩ := getC_cons hz3
    rw [heo] at ho2; cases ho2
end Go.Proofs.Ytnmocjhpbobahaa.L
namespace Go.Proofs.Ytnmocjhpbobahaa.L
open Go Go.RowKit

/-- A slice's cells, as a list of values. -/
def Src (w : World) (v : Value) (m size : Nat) (vals : List Value) : Prop := ∃ b c, v = .slice b m c ∧ ((b = none ∧ m = 0 ∧ vals = []) ∨ ∃ a, b = some a ∧ vals.length = m * size ∧ ∀ j u, vals[j]? = some u → w.cell? (a.add j) = some u)
theorem Src.drew {w : World} {v : Value} {m size : Nat} {vals : List Value} (h : Src w v m size vals) : Src w.drew v m size vals := by
  obtain ⟨b, c, h1, h2⟩ := h
  exact ⟨b, c, h1, h2.imp id (fun ⟨a, h3, h4, h5⟩ => ⟨a, h3, h4, fun j u hj => by rw [World.cell?_drew]; exact h5 j u hj⟩)⟩
theorem run_first {P : Program} {w : World} {v : Value} {m size : Nat} {vals : List Value} (h : Src w v m size vals) : (Builtin.firstCells size m v).run P w = .ok vals.toArray w := by
  obtain ⟨b, c, rfl, h2⟩ := h
  rcases h2 with ⟨rfl, rfl, rfl⟩ | ⟨a, rfl, h3, h4⟩
  · rfl
  · exact run_firstCells_some (P := P) w size m a m c vals h3 h4
theorem run_lenOf {P : Program} {w : World} {v : Value} {m size : Nat} {vals : List Value} (h : Src w v m size vals) : (Builtin.lenOf v).run P w = .ok m w := by
  obtain ⟨b, c, rfl, _⟩ := h
  rfl

theorem run_append_fit {P : Program} {w w' : World} {tx ty rt e e2 : TypeId} {inf : TypeInfo} {base : Option Addr} {sLen sCap m : Nat} {v : Value} {vals : List Value} (h1 : P.underlying tx = some (.slice e)) (h2 : P.underlying ty = some (.slice e2)) (hi : P.info? e = some inf)
    (hs : Src w v m (P.cellsOf e) vals) (hfit : sLen + m ≤ sCap) (hst : ∀ a, base = some a → (storeCells (a.add (sLen * P.cellsOf e)) vals).run P w = .ok () w') (hno : base = none → w' = w) :
    (Builtin.append_ #[tx, ty] rt #[.slice base sLen sCap, v]).run P w = .ok (.slice base (sLen + m) sCap) w' := by
  have hsz := run_sizeOf hi w
  have hf := run_first (P := P) hs
  have hl := run_lenOf (P := P) hs
  cases base with
  | none =>
    have := hno rfl
    subst this
    simp [Builtin.append_, run_underlying h1, run_underlying h2, hsz, hl, hfit, hf]
  | some a =>
    have := hst a rfl
    simp [Builtin.append_, run_underlying h1, run_underlying h2, hsz, hl, hfit, hf, this]
theorem run_append_new {P : Program} {w : World} {tx ty rt e e2 : TypeId} {inf : TypeInfo} {z : Value} {x v : Value} {sLen sCap m : Nat} {base : Option Addr} {olds vals : List Value} (h1 : P.underlying tx = some (.slice e)) (h2 : P.underlying ty = some (.slice e2)) (hi : P.info? e = some inf) (hz : inf.zero = some z)
    (hx : x = .slice base sLen sCap) (ho : Src w x sLen (P.cellsOf e) olds) (hs : Src w v m (P.cellsOf e) vals) (hg : sCap < sLen + m) (h63 : ((sLen + m : Nat) : Int) ≤ 9223372036854775807) (hfit : Builtin.nextslicecap (sLen + m) sCap * inf.bytes ≤ 281474976710656) :
    (Builtin.append_ #[tx, ty] rt #[x, v]).run P w = .ok (.slice (some ⟨w.heap.size, 0, none⟩) (sLen + m) (grownCap w (sLen + m) sCap e))
      (w.drew.alloc (.cells (olds.toArray ++ vals.toArray ++ Builtin.zeroCells z.cells (grownCap w (sLen + m) sCap e - (sLen + m))) e)) := by
  have hsz := run_sizeOf hi w
  have hf := run_first (P := P) hs.drew
  have hf2 := run_first (P := P) ho.drew
  have hl := run_lenOf (P := P) hs
  have hn : ¬ (sLen + m ≤ sCap) := by omega
  have h63' : ¬ (9223372036854775807 < ((sLen : Int) + (m : Int))) := by omega
  have h48' : ¬ (281474976710656 < Builtin.nextslicecap (sLen + m) sCap * inf.bytes) := by omega
  subst hx
  simp [Builtin.append_, run_underlying h1, run_underlying h2, hsz, hl, hn, h63', h48', typeInfo, hi, hf, hf2, zeroValue, hz, newRow, Question.forced, grownCap]
  have e0 : (olds ++ vals).toArray = olds.toArray ++ vals.toArray := by simp
  rw [e0, Array.append_assoc]

/-- The cells of a node, as a list of values. -/
theorem node_src {w : World} {sz : Nat} {n0 : Zn} {o : Bool} {g : Gh} {row : List GC} (h : holds w n0 (.sl o sz g row)) (hd : ∀ c ∈ row, c.isDead = false) : Src w (.slice g.a (row.length / sz) g.cap) (row.length / sz) sz (row.map Cell.val) := by
  refine ⟨g.a, g.cap, rfl, ?_⟩
  cases hga : g.a with
  | none =>
    have := h.2.1
    rw [hga] at this
    obtain ⟨e, _⟩ := this
    subst e
    exact .inl ⟨rfl, by simp, rfl⟩
  | some a =>
    right
    refine ⟨a, rfl, ?_, ?_⟩
    · rw [List.length_map]
      have h1 := Nat.div_add_mod row.length sz
      rw [h.1.2.1] at h1
      rw [Nat.mul_comm]; omega
    · intro j u hj
      rw [List.getElem?_map] at hj
      cases hc : row[j]? with
      | none => rw [hc] at hj; cases hj
      | some c =>
        rw [hc] at hj
        simp only [Option.map_some, Option.some.injEq] at hj
        subst hj
        obtain ⟨a', ha', _, v, v1, v2⟩ := base_cell h hc
        simp only [Cell.gh] at ha'
        rw [hga] at ha'; cases ha'
        rcases v2 with v2 | v2
        · rw [hd c (List.mem_of_getElem? hc)] at v2; cases v2
        · rw [← v2]; exact v1
/-- A window's cells. -/
theorem win_src {w : World} {sz lo n : Nat} {n0 : Zn} {g : Gh} {yrow : List GC} {full : Bool} {v : Value} (h : holds w n0 (.sl true sz g yrow)) (hl : lo + n ≤ yrow.length) (h3 : n % sz = 0) (hw : Win g sz lo n full v) (hd : ∀ c ∈ (yrow.drop lo).take n, c.isDead = false) :
    Src w v (n / sz) sz (((yrow.drop lo).take n).map Cell.val) := by
  have hsz := h.1.1
  have hlen : ((yrow.drop lo).take n).length = n := by simp; omega
  have hn : n = (n / sz) * sz := by
    have h1 := Nat.div_add_mod n sz
    rw [h3] at h1
    rw [Nat.mul_comm]; omega
  by_cases hn0 : n = 0
  · obtain ⟨a', cap', hv, _⟩ := hw
    refine ⟨a', cap', hv, ?_⟩
    subst hn0
    cases a' with
    | none => exact .inl ⟨rfl, by simp, by simp⟩
    | some a => exact .inr ⟨a, rfl, by simp, by simp⟩
  · have hpos : 0 < n / sz := by
      rcases Nat.eq_zero_or_pos (n / sz) with e | e
      · rw [e] at hn; omega
      · exact e
    obtain ⟨cap, hv⟩ := win_addr hw hpos
    have hyr : yrow ≠ [] := by intro e; subst e; simp at hl; omega
    cases hga : g.a with
    | none =>
      have := h.2.1
      rw [hga] at this
      exact absurd this.1 hyr
    | some a =>
      have hspot : a.spot = none := own_addr (y := .sl true sz g yrow) h rfl hga
      rw [hga] at hv
      refine ⟨_, cap, hv, .inr ⟨a.add lo, rfl, by rw [List.length_map, hlen]; exact hn, ?_⟩⟩
      intro j u hj
      rw [List.getElem?_map] at hj
      cases hc : ((yrow.drop lo).take n)[j]? with
      | none => rw [hc] at hj; cases hj
      | some c =>
        rw [hc] at hj
        simp only [Option.map_some, Option.some.injEq] at hj
        subst hj
        have hc' : yrow[lo + j]? = some c := by
          rw [List.getElem?_take] at hc
          split at hc
          · rw [List.getElem?_drop] at hc; exact hc
          · cases hc
        obtain ⟨a', ha', _, u, u1, u2⟩ := base_cell (c := .sl true sz g yrow) h hc'
        simp only [Cell.gh] at ha'
        rw [hga] at ha'; cases ha'
        rw [add_add hspot]
        rcases u2 with u2 | u2
        · rw [hd c (List.mem_of_getElem? hc)] at u2; cases u2
        · rw [← u2]; exact u1

theorem all_notdead {l : List GC} (h : l.all Cell.copyable = true) : ∀ c ∈ l, c.isDead = false := fun c hc => copyable_dead (List.all_eq_true.1 h c hc)
/-- A slice operand whose cells may be copied. -/
theorem sd_src {w0 : W0} {w : World} {Γ : St Gh} {xs : List GC} {tm : Array Value} (h : Inv w0 Γ xs tm w) {x : Operand} {d : SD Gh} (hx : sdOf Γ x = some d) (hc : d.row.all Cell.copyable = true) :
    Src w (ev tm x) (d.row.length / d.sz) d.sz (d.row.map Cell.val) ∧ holdsL w w0.zn d.row ∧ d.row.length % d.sz = 0 := by
  have hok := sdOf_ok h hx
  cases d with
  | own r p sz lo n whole full row =>
    obtain ⟨g, yrow, hy, hyh, h1, h2, h3, h4, _, hw⟩ := hok
    simp only [SD.row, SD.sz] at hc ⊢
    subst h2
    have hlen : ((yrow.drop lo).take n).length = n := by simp; omega
    rw [hlen]
    refine ⟨win_src hyh h1 h4 hw (all_notdead hc), ?_, h4⟩
    have := hyh.2.2
    rw [holdsL_iff] at this ⊢
    exact fun c hc => this c (List.mem_of_mem_drop (List.mem_of_mem_take hc))
  | frz sz g row =>
    obtain ⟨hv, hh⟩ := hok
    simp only [SD.row, SD.sz] at hc ⊢
    rw [hv]
    exact ⟨node_src hh (all_notdead hc), hh.2.2, hh.1.2.1⟩

theorem ownSl_cs {v : SV Gh} (h : v.ownSl = true) : ∃ sz g row, v.cs = [.c (.sl true sz g row)] := by
  unfold SV.ownSl at h
  split at h
  · next x hx =>
    split at h
    · next c =>
      split at h
      · next o sz g row => subst h; exact ⟨sz, g, row, hx⟩
      · cases h
    · cases h
  · cases h

/-- What is appended: the cells, out of a row that is used up or copied; the pool holds what was used up. -/
theorem news_ok {w0 : W0} {w : World} {Γ : St Gh} {tm : Array Value} (h : Inv w0 Γ [] tm w) {sz : Nat} {x : Operand} {news : List GC} {d : Pend Gh} (hx : newsOf Γ sz x = some (news, d)) (hnd : ∀ c ∈ news, c.isDead = false) :
    ∃ ys, Inv w0 (Γ.pend d) ys tm w ∧ (∃ D, (footL news ++ D).Perm (footL ys)) ∧ holdsL w w0.zn news ∧ Src w (ev tm x) (news.length / sz) sz (news.map Cell.val) ∧ Back Γ (Γ.pend d) := by
  unfold newsOf at hx
  split at hx
  · next sd hsd =>
    split at hx
    · next hsz =>
      split at hx
      · next s =>
        split at hx
        · next ho =>
          cases hta : takeAt Γ pend0 s [0] with
          | none => rw [hta] at hx; cases hx
          | some yd =>
            obtain ⟨y, d1⟩ := yd
            rw [hta] at hx
            simp only [Option.map_some, Option.some.injEq, Prod.mk.injEq] at hx
            obtain ⟨rfl, rfl⟩ := hx
            obtain ⟨sz', g, row, hcs⟩ := ownSl_cs ho
            obtain ⟨a1, a2, a3, a4, _⟩ := take_ok (pend0_inv h) hta
            obtain ⟨_, e2, _⟩ := pend_one hta
            have hyeq : y = .sl true sz' g row := by
              simp only [SV.getP, hcs, List.getElem?_cons_zero, Cell.getC, Option.some.injEq] at e2
              exact e2.symm
            subst hyeq
            have hk : (Γ.get s).k = .one := by
              simp only [sdOf] at hsd
              split at hsd
              · next hk => exact hk
              · cases hsd
            have hsd' : sd = .own s [0] sz' 0 row.length true false row := by
              simp only [sdOf, hk, if_true, hcs, Option.some.injEq] at hsd
              exact hsd.symm
            subst hsd'
            simp only [SD.sz] at hsz
            subst hsz
            have hv : ev tm (.tmp s) = .slice g.a (row.length / sz') g.cap := by
              rcases one_val hk hcs (h.rel s) with hr | hr
              · cases hr
              · exact hr
            refine ⟨[.sl true sz' g row], a1, ⟨blockOf true g, ?_⟩, a1.pool.1.2.2, ?_, fun r q z hz ho => ?_⟩
            · simp only [footL, foot, List.append_nil, Cell.row]
              exact List.perm_append_comm
            · rw [hv]; exact node_src a1.pool.1 hnd
            · obtain ⟨z0, b1, b2⟩ := a2 r q z hz ho
              rw [pend0_get] at b1
              exact ⟨z0, b1, b2⟩
        · split at hx
          · next hc =>
            simp only [Option.some.injEq, Prod.mk.injEq] at hx
            obtain ⟨rfl, rfl⟩ := hx
            obtain ⟨s1, s2, s3⟩ := sd_src h hsd hc
            rw [← hsz]
            exact ⟨[], pend0_inv h, ⟨[], by rw [footL_copyable hc s2]; exact List.Perm.refl _⟩, s2, s1, pend0_back Γ⟩
          · cases hx
      · cases hx
    · cases hx
  · cases hx

theorem zeroOk_info {P : Program} {e : TypeId} (h : zeroOk P e = true) : ∃ i v, P.info? e = some i ∧ i.zero = some v ∧ v.cells.size = P.cellsOf e := by
  unfold zeroOk at h
  cases hi : P.info? e with
  | none => rw [hi] at h; simp at h
  | some i =>
    rw [hi] at h
    cases hz : i.zero with
    | none => simp [hz] at h
    | some v => simp [hz] at h; exact ⟨i, v, rfl, hz, h⟩
theorem div_add_of {a b sz : Nat} (ha : a % sz = 0) (hb : b % sz = 0) (hs : 0 < sz) : (a + b) / sz = a / sz + b / sz := by
  have h1 := Nat.div_add_mod a sz
  have h2 := Nat.div_add_mod b sz
  rw [ha] at h1; rw [hb] at h2
  have e : a + b = sz * (a / sz + b / sz) := by rw [Nat.mul_add]; omega
  rw [e, Nat.mul_div_cancel_left _ hs]
theorem mul_of_div {a sz : Nat} (ha : a % sz = 0) : a / sz * sz = a := by
  have h1 := Nat.div_add_mod a sz
  rw [ha] at h1
  rw [Nat.mul_comm]; omega

/-- Behind an append into a new row. -/
theorem append_fresh {w0 : W0} {w : World} {Γ : St Gh} {tm : Array Value} {ys : List GC} (h : Inv w0 Γ ys tm w) {e : TypeId} {z : Value} {sz need cap : Nat} {row news : List GC} (hz : z.cells.size = sz) (hsz : 0 < sz) (hm : (row ++ news).length = need * sz) (hcap : need ≤ cap)
    (hr : holdsL w w0.zn (row ++ news)) (hf : ∃ D, (footL (row ++ news) ++ D).Perm (footL ys)) :
    Inv w0 Γ [.sl true sz ⟨some ⟨w.heap.size, 0, none⟩, cap⟩ (row ++ news)] tm (w.drew.alloc (.cells ((row.map Cell.val).toArray ++ (news.map Cell.val).toArray ++ Builtin.zeroCells z.cells (cap - need)) e)) := by
  have h1 : Inv w0 Γ (row ++ news) tm w.drew := by
    refine (h.sub hf hr).world ((Bel.refl _ w).drew) (fun s b _ => rfl) (fun b _ => rfl)
  have hr' : holdsL w.drew w0.zn (row ++ news) := h1.pool
  have := Inv.fresh (ys := row ++ news) (xs := []) (row := row ++ news) (cs := (row.map Cell.val).toArray ++ (news.map Cell.val).toArray ++ Builtin.zeroCells z.cells (cap - need)) (e := e) (by simpa using h1) (List.Perm.refl _) hr' ?_
    (c := .sl true sz ⟨some ⟨w.drew.heap.size, 0, none⟩, cap⟩ (row ++ news)) (.inr ⟨_, _, rfl, hsz, by rw [hm]; exact Nat.mul_mod_left _ _, by rw [hm, Nat.mul_div_cancel _ hsz]; exact hcap, ?_⟩)
  · exact this
  · intro i c hc
    refine ⟨c.val, ?_, .inr rfl⟩
    have hi : i < (row ++ news).length := (List.getElem?_eq_some_iff.1 hc).1
    have e1 : (row.map Cell.val).toArray ++ (news.map Cell.val).toArray = ((row ++ news).map Cell.val).toArray := by simp
    rw [e1, Array.getElem?_append_left (by simpa using hi)]
    simp only [List.getElem?_toArray, List.getElem?_map, hc, Option.map_some]
  · simp only [Array.size_append, List.size_toArray, List.length_map, size_zeroCells, hz]
    rw [List.length_append] at hm
    rw [hm, ← Nat.add_mul]
    have : need + (cap - need) = cap := by omega
    rw [this]
    exact Nat.le_refl _
theorem append_ok {w0 : W0} {w : World} {Γ : St Gh} {tm : Array Value} (h : Inv w0 Γ [] tm w) {P : Program} {t : Nat} {args : Array Operand} {tys : Array TypeId} {rt : TypeId} (ht : t < tm.size) (a0 : Gh) (hsome : (effAppend P (goodΩ a0) Γ t args.toList tys.toList).isSome) :
    ∃ a v w', (Builtin.append_ tys rt (args.map (ev tm))).run P w = .ok v w' ∧ ∀ ef, effAppend P (goodΩ a) Γ t args.toList tys.toList = some ef → Inv w0 (Γ.app ef) [] (tm.setIfInBounds t v) w' := by
  unfold effAppend at hsome ⊢
  split at hsome
  · next x y tx ty hx hty =>
    have hargs : args = #[x, y] := by apply Array.ext'; simpa using hx
    have htys : tys = #[tx, ty] := by apply Array.ext'; simpa using hty
    subst hargs; subst htys
    have emap : (#[x, y] : Array Operand).map (ev tm) = #[ev tm x, ev tm y] := by simp
    rw [emap]
    cases hu : P.underlying tx with
    | none => rw [hu] at hsome; simp at hsome
    | some dd =>
    rw [hu] at hsome
    cases dd with
    | slice e =>
      cases hu2 : P.underlying ty with
      | none => rw [hu2] at hsome; simp at hsome
      | some dd2 =>
      rw [hu2] at hsome
      cases dd2 with
      | slice e2 =>
        cases hsd : sdOf Γ x with
        | none => rw [hsd] at hsome; simp at hsome
        | some d =>
        rw [hsd] at hsome
        simp only at hsome ⊢
        by_cases hc : d.sz = P.cellsOf e ∧ 0 < d.sz ∧ zeroOk P e = true
        · rw [if_pos hc] at hsome
          simp only [if_pos hc]
          obtain ⟨c1, c2, c4⟩ := hc
          cases hnw : newsOf Γ d.sz y with
          | none => rw [hnw] at hsome; simp at hsome
          | some np =>
          obtain ⟨news, pd⟩ := np
          rw [hnw] at hsome
          simp only at hsome ⊢
          by_cases hc2 : (news.length % d.sz = 0 ∧ (d.row.length + news.length) / d.sz ≤ 4611686018427387904 ∧ (d.row.length + news.length) / d.sz * P.bytesOf e ≤ 140737488355328) ∧ news.all (!·.isDead) = true ∧ d.row.all (!·.isDead) = true
          · rw [if_pos hc2] at hsome
            simp only [if_pos hc2]
            obtain ⟨⟨m1, m2, m5⟩, m3, m4⟩ := hc2
            have hnd : ∀ c ∈ news, c.isDead = false := fun c hc => by simpa using List.all_eq_true.1 m3 c hc
            have hrd : ∀ c ∈ d.row, c.isDead = false := fun c hc => by simpa using List.all_eq_true.1 m4 c hc
            obtain ⟨ys, p1, ⟨D, p2⟩, p3, p4, p5⟩ := news_ok h hnw hnd
            obtain ⟨inf, zv, i1, i2, i3⟩ := zeroOk_info c4
            have hby : inf.bytes = P.bytesOf e := by simp [Program.bytesOf, i1]
            have hok := sdOf_ok h hsd
            cases d with
            | frz sz g row => simp at hsome
            | own r p sz lo n whole full row =>
              simp only [SD.sz, SD.row] at c1 c2 m1 m2 p4 hrd
              obtain ⟨g, yrow, hy, hyh, h1, h2, h3, h4, hwh, hw⟩ := hok
              have hrl : row.length = n := by rw [h2]; simp; omega
              have hrm : row.length % sz = 0 := by rw [hrl]; exact h4
              have hneed : (row.length + news.length) / sz = row.length / sz + news.length / sz := div_add_of hrm m1 c2
              have hfits : ∀ cap, cap < row.length / sz + news.length / sz → Builtin.nextslicecap (row.length / sz + news.length / sz) cap * inf.bytes ≤ 281474976710656 := by
                intro cap hcap
                refine growslice_fits hcap ?_
                rw [hby, ← hneed]
                exact m5
              have h63 : ((row.length / sz + news.length / sz : Nat) : Int) ≤ 9223372036854775807 := by rw [← hneed]; omega
              replace p4 : Src w (ev tm y) (news.length / sz) (P.cellsOf e) (news.map Cell.val) := by rw [← c1]; exact p4
              cases whole with
              | true =>
                obtain ⟨q1, q2, q3⟩ := hwh rfl
                subst q1
                have hrow : row = yrow := by rw [h2, q2]; simp
                subst hrow
                simp only at hsome ⊢
                cases hta : takeAt Γ pd r p with
                | none => rw [hta] at hsome; simp at hsome
                | some yd =>
                obtain ⟨cc, pd'⟩ := yd
                obtain ⟨t1, t2, t3, t4, _⟩ := take_ok p1 hta
                obtain ⟨z0, z1, z2⟩ := p5 r p cc t3 t4
                rw [hy] at z1
                cases z1
                -- the node is as it was: nothing was taken out of it
                have hcc : cc = .sl true sz g row := by
                  have hget : (ovGet Γ pd.ch r).getP p = some cc := by
                    have := t3
                    rw [pend_get, getP_kill] at this
                    exact this
                  unfold newsOf at hnw
                  split at hnw
                  · next sd0 hsd0 =>
                    split at hnw
                    · next hsz0 =>
                      split at hnw
                      · next s =>
                        split at hnw
                        · next ho =>
                          cases hts : takeAt Γ pend0 s [0] with
                          | none => rw [hts] at hnw; cases hnw
                          | some yd2 =>
                            rw [hts] at hnw
                            simp only [Option.map_some, Option.some.injEq, Prod.mk.injEq] at hnw
                            obtain ⟨_, rfl⟩ := hnw
                            obtain ⟨e1, _, _⟩ := pend_one (y := yd2.1) (d := yd2.2) hts
                            rw [e1] at hget
                            by_cases hrs : r = s
                            · subst hrs
                              exfalso
                              simp only [ovGet, List.lookup, beq_self_eq_true] at hget
                              obtain ⟨sz', g', row', hcs⟩ := ownSl_cs ho
                              have hset : (Γ.get r).setP [0] .dead = ⟨(Γ.get r).k, [.c .dead]⟩ := by simp only [SV.setP, hcs, List.getElem?_cons_zero, List.set_cons_zero, Cell.setC]
                              rw [hset] at hget
                              cases p with
                              | nil => simp [SV.getP] at hget
                              | cons j q => cases j with
                                | succ j => simp [SV.getP] at hget
                                | zero =>
                                  simp only [SV.getP, List.getElem?_cons_zero] at hget
                                  cases q with
                                  | nil => simp only [Cell.getC, Option.some.injEq] at hget; subst hget; simp [Cell.isOwn] at t4
                                  | cons j q => simp [Cell.getC, Cell.isOwn] at hget
                            · have : (r == s) = false := by simpa using hrs
                              simp only [ovGet, List.lookup, this] at hget
                              rw [hy] at hget
                              exact (Option.some.inj hget).symm
                        · split at hnw
                          · simp only [Option.some.injEq, Prod.mk.injEq] at hnw
                            obtain ⟨_, rfl⟩ := hnw
                            simp only [ovGet, pend0, List.lookup] at hget
                            rw [hy] at hget
                            exact (Option.some.inj hget).symm
                          · cases hnw
                      · cases hnw
                    · cases hnw
                  · cases hnw
                subst hcc
                have hev : ev tm x = .slice g.a (row.length / sz) g.cap := by rw [q3, q2]
                have hpool : holdsL w w0.zn (row ++ news) := by
                  have a1 := t1.pool.1.2.2
                  rw [holdsL_iff] at a1 p3 ⊢
                  intro c hc
                  rcases List.mem_append.1 hc with hc | hc
                  · exact a1 c hc
                  · exact p3 c hc
                have happ : ∀ y : GC, Γ.app (pd'.fin t (one (.c y))) = ((putAll Γ pd'.ch.reverse).put t (one (.c y))).kill ((t, []) :: pd'.kill) := fun y => app_fin _ _ _ _
                by_cases hfit : row.length / sz + news.length / sz ≤ g.cap
                · -- in its place
                  obtain ⟨w', hst, hO, hv', hbase⟩ : ∃ w', (∀ a, g.a = some a → (storeCells (a.add (row.length / sz * P.cellsOf e)) (news.map Cell.val)).run P w = .ok () w') ∧ (g.a = none → w' = w) ∧
                      (∀ a, g.a = some a → Only w w' a.block ∧ ∀ (i : Nat) (q : GC), (row ++ news)[i]? = some q → ∃ v, w'.cell? (a.add i) = some v ∧ (q.isDead = true ∨ v = q.val)) ∧ True := by
                    cases hga : g.a with
                    | none => exact ⟨w, by simp, fun _ => rfl, by simp, trivial⟩
                    | some a =>
                      obtain ⟨b1, b2, room, b3, b3', cur, e', b4, b5⟩ := own_base t1.pool.1 rfl (a := a) hga
                      have hroom : room = g.cap * sz := b3' _ _ _ _ rfl
                      have hlen : row.length + news.length ≤ g.cap * sz := by
                        have h1 := mul_of_div hrm
                        have h2 := mul_of_div m1
                        have h3 := Nat.mul_le_mul_right sz hfit
                        rw [Nat.add_mul] at h3
                        omega
                      obtain ⟨w', w1, w2, w3, w4⟩ := run_stores (P := P) b1 b4 row.length (news.map Cell.val) (by rw [List.length_map]; omega) (by
                        intro v hv
                        obtain ⟨q, hq, rfl⟩ := List.mem_map.1 hv
                        exact val_oneCell (holdsL_iff.1 p3 q hq) (hnd q hq))
                      refine ⟨w', ?_, by simp, ?_, trivial⟩
                      · intro a' ha'
                        cases ha'
                        rw [← c1, mul_of_div hrm]
                        exact w1
                      · intro a' ha'
                        cases ha'
                        refine ⟨w2, ?_⟩
                        intro i q hq
                        by_cases hi : row.length ≤ i
                        · have hi2 : i < row.length + news.length := by
                            have := (List.getElem?_eq_some_iff.1 hq).1
                            simpa using this
                          rw [List.getElem?_append_right hi] at hq
                          refine ⟨q.val, ?_, .inr rfl⟩
                          rw [w3 i hi (by simpa using hi2), List.getElem?_map, hq]; rfl
                        · rw [List.getElem?_append_left (by omega)] at hq
                          obtain ⟨a', ha', _, v', v1, v2⟩ := base_cell (c := .sl true sz g row) t1.pool.1 hq
                          simp only [Cell.gh] at ha'
                          rw [hga] at ha'; cases ha'
                          exact ⟨v', by rw [w4 i (.inl (by omega))]; exact v1, v2⟩
                  have hrun := run_append_fit (P := P) (rt := rt) hu hu2 i1 p4 hfit hst hO
                  refine ⟨g, _, w', by rw [← hev] at hrun; exact hrun, ?_⟩
                  intro ef he
                  simp only [Option.some.injEq] at he
                  subst he
                  rw [happ]
                  have hsub : Inv w0 (Γ.pend pd') (.sl true sz g row :: news ++ []) tm w := by
                    refine t1.sub ⟨D, ?_⟩ ?_
                    · simp only [List.append_nil, List.cons_append, footL]
                      rw [List.append_assoc]
                      exact List.Perm.append_left _ p2
                    · rw [List.append_nil]; exact ⟨t1.pool.1, p3⟩
                  have hval : Cell.val (.sl true sz g (row ++ news)) = .slice g.a (row.length / sz + news.length / sz) g.cap := by
                    simp only [Cell.val]; rw [List.length_append, hneed]
                  cases hga : g.a with
                  | none =>
                    have hnil : row = [] ∧ g.cap * sz = 0 := by
                      have := t1.pool.1.2.1
                      rw [hga] at this
                      exact this
                    have hcap0 : g.cap = 0 := by
                      rcases Nat.mul_eq_zero.1 hnil.2 with h | h
                      · exact h
                      · omega
                    have hnews : news = [] := by
                      have h3 : ∀ a b c : Nat, a + b ≤ c → c = 0 → b = 0 := by omega
                      have : news.length / sz = 0 := h3 _ _ _ hfit hcap0
                      have h2 := mul_of_div m1
                      rw [this, Nat.zero_mul] at h2
                      exact List.length_eq_zero_iff.1 h2.symm
                    have hw' := hO hga
                    subst hw'
                    have hd1 := done_one (y := .sl true sz g row) (D := pd'.kill) (Γ := putAll Γ pd'.ch.reverse) (t1.sub ⟨footL ys, by simp [footL]⟩ ⟨t1.pool.1, trivial⟩) ht
                    rw [hnews, List.append_nil] at hval ⊢
                    rw [hval] at hd1
                    rw [hga] at hd1
                    exact hd1
                  | some a =>
                    obtain ⟨o1, o2⟩ := hv' a hga
                    have hext := Inv.extend (ys := news) (xs := []) (a := a) hsub hga (by rw [List.length_append]; exact Nat.mod_eq_zero_of_dvd (Nat.dvd_add (Nat.dvd_of_mod_eq_zero hrm) (Nat.dvd_of_mod_eq_zero m1))) (by rw [List.length_append, hneed]; exact hfit) o1 o2 (fun q hq => hq) (List.Perm.refl _)
                    have hd1 := done_one (D := pd'.kill) (Γ := putAll Γ pd'.ch.reverse) hext ht
                    rw [hval, hga] at hd1
                    exact hd1
                · -- anew
                  have hrun := run_append_new (P := P) (w := w) (rt := rt) (olds := row.map Cell.val) hu hu2 i1 i2 rfl (by rw [← c1]; exact node_src hyh hrd) p4 (by omega) h63 (hfits g.cap (by omega))
                  refine ⟨⟨some ⟨w.heap.size, 0, none⟩, grownCap w (row.length / sz + news.length / sz) g.cap e⟩, _, _, by rw [← hev] at hrun; exact hrun, ?_⟩
                  intro ef he
                  simp only [Option.some.injEq] at he
                  subst he
                  rw [happ]
                  have hfresh := append_fresh (e := e) (z := zv) (need := row.length / sz + news.length / sz) (cap := grownCap w (row.length / sz + news.length / sz) g.cap e) t1 (by rw [i3, c1]) c2
                    (by rw [List.length_append, Nat.add_mul, mul_of_div hrm, mul_of_div m1]) (grownCap_ge _ _ _ _) hpool ⟨blockOf true g ++ D, by
                      simp only [footL, foot, footL_append]
                      have e1 : (footL row ++ footL news ++ (blockOf true g ++ D)).Perm (blockOf true g ++ (footL row ++ (footL news ++ D))) := by
                        have a1 : (footL row ++ footL news ++ (blockOf true g ++ D)).Perm ((blockOf true g ++ D) ++ (footL row ++ footL news)) := List.perm_append_comm
                        refine a1.trans ?_
                        rw [List.append_assoc]
                        refine List.Perm.append_left _ ?_
                        have a2 : (D ++ (footL row ++ footL news)).Perm ((footL row ++ footL news) ++ D) := List.perm_append_comm
                        refine a2.trans ?_
                        rw [List.append_assoc]
                      refine e1.trans ?_
                      rw [List.append_assoc]
                      exact List.Perm.append_left _ (List.Perm.append_left _ p2)⟩
                  have hval : Cell.val (.sl true sz ⟨some ⟨w.heap.size, 0, none⟩, grownCap w (row.length / sz + news.length / sz) g.cap e⟩ (row ++ news)) = .slice (some ⟨w.heap.size, 0, none⟩) (row.length / sz + news.length / sz) (grownCap w (row.length / sz + news.length / sz) g.cap e) := by
                    simp only [Cell.val]; rw [List.length_append, hneed]
                  have hd1 := done_one (D := pd'.kill) (Γ := putAll Γ pd'.ch.reverse) hfresh ht
                  rw [hval] at hd1
                  exact hd1
              | false =>
                cases full with
                | false => simp at hsome
                | true =>
                  simp only at hsome ⊢
                  by_cases hcp : row.all Cell.copyable = true ∧ 0 < news.length
                  · simp only [if_pos hcp]
                    obtain ⟨k1, k2⟩ := hcp
                    obtain ⟨s1, s2, s3⟩ := sd_src h hsd k1
                    simp only [SD.row, SD.sz] at s1 s2 s3
                    obtain ⟨a', cap', hv, w1, w2, w3, w4⟩ := hw
                    have hcap := w2 rfl
                    have hpos : 0 < news.length / sz := by
                      rcases Nat.eq_zero_or_pos (news.length / sz) with e0 | e0
                      · have := mul_of_div m1; rw [e0] at this; omega
                      · exact e0
                    rw [← hrl] at hv hcap
                    have hrun := run_append_new (P := P) (w := w) (rt := rt) (olds := row.map Cell.val) hu hu2 i1 i2 hv (by rw [← c1]; exact s1) p4 (by omega) h63 (hfits cap' (by omega))
                    refine ⟨⟨some ⟨w.heap.size, 0, none⟩, grownCap w (row.length / sz + news.length / sz) cap' e⟩, _, _, hrun, ?_⟩
                    intro ef he
                    simp only [Option.some.injEq] at he
                    subst he
                    rw [app_fin]
                    have hpool : holdsL w w0.zn (row ++ news) := by
                      rw [holdsL_iff] at s2 p3 ⊢
                      intro c hc
                      rcases List.mem_append.1 hc with hc | hc
                      · exact s2 c hc
                      · exact p3 c hc
                    have hfresh := append_fresh (e := e) (z := zv) (need := row.length / sz + news.length / sz) (cap := grownCap w (row.length / sz + news.length / sz) cap' e) p1 (by rw [i3, c1]) c2
                      (by rw [List.length_append, Nat.add_mul, mul_of_div hrm, mul_of_div m1]) (grownCap_ge _ _ _ _) hpool ⟨D, by rw [footL_append, footL_copyable k1 s2, List.nil_append]; exact p2⟩
                    have hval : Cell.val (.sl true sz ⟨some ⟨w.heap.size, 0, none⟩, grownCap w (row.length / sz + news.length / sz) cap' e⟩ (row ++ news)) = .slice (some ⟨w.heap.size, 0, none⟩) (row.length / sz + news.length / sz) (grownCap w (row.length / sz + news.length / sz) cap' e) := by
                      simp only [Cell.val]; rw [List.length_append, hneed]
                    have hd1 := done_one (D := pd.kill) (Γ := putAll Γ pd.ch.reverse) hfresh ht
                    rw [hval] at hd1
                    exact hd1
                  · rw [if_neg hcp] at hsome; simp at hsome
          · rw [if_neg hc2] at hsome; simp at hsome
        · rw [if_neg hc] at hsome; simp at hsome
      | _ => simp at hsome
    | _ => cases hu2 : P.underlying ty with
      | none => rw [hu2] at hsome; simp at hsome
      | some dd2 => rw [hu2] at hsome; cases dd2 <;> simp at hsome
  · simp at hsome
end Go.Proofs.Ytnmocjhpbobahaa.L
namespace Go.Proofs.Ytnmocjhpbobahaa.L
open Go Go.RowKit

theorem run_first_take {P : Program} {w : World} {v : Value} {m m' size : Nat} {vals : List Value} (h : Src w v m size vals) (hm : m' ≤ m) : (Builtin.firstCells size m' v).run P w = .ok (vals.take (m' * size)).toArray w := by
  obtain ⟨b, c, rfl, h2⟩ := h
  rcases h2 with ⟨rfl, rfl, rfl⟩ | ⟨a, rfl, h3, h4⟩
  · simp [Builtin.firstCells]
  · refine run_firstCells_some (P := P) w size m' a m c _ ?_ ?_
    · rw [List.length_take, h3]
      have := Nat.mul_le_mul_right size hm
      omega
    · intro j u hj
      rw [List.getElem?_take] at hj
      split at hj
      · exact h4 j u hj
      · cases hj
theorem free_all {w0 : W0} {w : World} {Γ : St Gh} {xs : List GC} {tm : Array Value} (h : Inv w0 Γ xs tm w) : ∀ (l : List GC), holdsL w w0.zn l → footL l = [] → Inv w0 Γ (l ++ xs) tm w
  | [], _, _ => h
  | c :: l, h1, h2 => by
    simp only [footL, List.append_eq_nil_iff] at h2
    exact holds_free (free_all h l h1.2 h2.2) h1.1 h2.1
theorem min_mul (a b s : Nat) : min (a * s) (b * s) = min a b * s := by
  rcases Nat.le_total a b with h | h
  · rw [Nat.min_eq_left h, Nat.min_eq_left (Nat.mul_le_mul_right s h)]
  · rw [Nat.min_eq_right h, Nat.min_eq_right (Nat.mul_le_mul_right s h)]

theorem copy_ok {w0 : W0} {w : World} {Γ : St Gh} {tm : Array Value} (h : Inv w0 Γ [] tm w) {P : Program} {t : Nat} {args : Array Operand} {tys : Array TypeId} {rt : TypeId} {ef : Eff Gh} (ht : t < tm.size) (he : effCopy P Γ t args.toList tys.toList = some ef) :
    ∃ v w', (Builtin.copy_ tys rt (args.map (ev tm))).run P w = .ok v w' ∧ Inv w0 (Γ.app ef) [] (tm.setIfInBounds t v) w' := by
  unfold effCopy at he
  split at he
  · next x y tx ty hx hty =>
    have hargs : args = #[x, y] := by apply Array.ext'; simpa using hx
    have htys : tys = #[tx, ty] := by apply Array.ext'; simpa using hty
    subst hargs; subst htys
    cases hu : P.underlying tx with
    | none => rw [hu] at he; simp at he
    | some dd =>
    rw [hu] at he
    cases dd with
    | slice e =>
      cases hu2 : P.underlying ty with
      | none => rw [hu2] at he; simp at he
      | some dd2 =>
      rw [hu2] at he
      cases dd2 with
      | slice e2 =>
        cases hsx : sdOf Γ x with
        | none => rw [hsx] at he; simp at he
        | some dx =>
        rw [hsx] at he
        cases hsy : sdOf Γ y with
        | none => rw [hsy] at he; cases dx <;> simp at he
        | some d =>
        rw [hsy] at he
        cases dx with
        | frz sz g row => simp at he
        | own r p sz lo n whole full drow =>
          simp only at he
          split at he
          · next hc =>
            obtain ⟨c1, c2, c3, c4, c5⟩ := hc
            obtain ⟨g, yrow, hy, hyh, h1, h2, h3, h4, _, hw⟩ := sdOf_ok h hsx
            obtain ⟨s1, s2, s3⟩ := sd_src h hsy c4
            rw [hy] at he
            simp only [Option.some.injEq] at he
            subst he
            rw [c2] at s1 s3
            have hdl : drow.length = n := by rw [h2]; simp; omega
            have hmin : min d.row.length n = min (d.row.length / sz) (n / sz) * sz := by
              rw [← min_mul, mul_of_div s3, mul_of_div h4]
            obtain ⟨inf, hinf, _⟩ := cellsOf_info (P := P) (e := e) (by omega)
            have hsz := run_sizeOf hinf w
            obtain ⟨a', cap', hv, w1, w2, w3, w4⟩ := hw
            obtain ⟨b, c, hvy, _⟩ := id s1
            have hfirst := run_first_take (P := P) s1 (Nat.min_le_left (d.row.length / sz) (n / sz))
            rw [← hmin] at hfirst
            have hk : (d.row.take (min d.row.length n)).length = min d.row.length n := by rw [List.length_take]; omega
            have hkn : min d.row.length n ≤ n := Nat.min_le_right _ _
            have hlh : holdsL w w0.zn (d.row.take (min d.row.length n)) := by
              rw [holdsL_iff] at s2 ⊢
              exact fun q hq => s2 q (List.mem_of_mem_take hq)
            have hcpy : (d.row.take (min d.row.length n)).all Cell.copyable = true := List.all_eq_true.2 fun q hq => List.all_eq_true.1 c4 q (List.mem_of_mem_take hq)
            have hfree := free_all h _ hlh (footL_copyable hcpy hlh)
            -- the stores
            have hstores : ∃ w', (∀ a, a' = some a → (storeCells a ((d.row.take (min d.row.length n)).map Cell.val)).run P w = .ok () w') ∧ (a' = none → w' = w) ∧ Inv w0 (Γ.put r ((Γ.get r).setP p ((Cell.sl true sz g yrow).withRow (setRun yrow lo (d.row.take (min d.row.length n)))))) [] tm w' := by
              by_cases hn0 : n = 0
              · refine ⟨w, ?_, fun _ => rfl, ?_⟩
                · intro a ha
                  have : min d.row.length n = 0 := by rw [hn0]; simp
                  rw [this]
                  simp [storeCells]
                · have : min d.row.length n = 0 := by rw [hn0]; simp
                  rw [this, List.take_zero]
                  simp only [setRun]
                  refine h.congr ?_
                  intro s
                  rw [get_put]
                  split
                  · next hs =>
                    subst hs
                    have key : ∀ (p : List Nat) (c d : GC), c.getC p = some d → c.setC p d = c := by
                      intro p
                      induction p with
                      | nil => intro c d hd; simp only [Cell.getC, Option.some.injEq] at hd; subst hd; rfl
                      | cons j q ih =>
                        intro c d hd
                        obtain ⟨ho, e, he, hd2⟩ := getC_cons hd
                        simp only [Cell.setC, he]
                        rw [ih e d hd2]
                        have hj : j < c.row.length := (List.getElem?_eq_some_iff.1 he).1
                        have : c.row.set j e = c.row := by
                          apply List.ext_getElem?
                          intro i
                          by_cases hji : j = i
                          · subst hji; rw [List.getElem?_set_self hj]; exact he.symm
                          · rw [List.getElem?_set_ne hji]
                        rw [this]
                        cases c <;> rfl
                    cases p with
                    | nil => simp [SV.getP] at hy
                    | cons j q =>
                      obtain ⟨z, hz, hzd⟩ := getP_cell hy
                      simp only [SV.setP, hz, Cell.withRow]
                      rw [key q z _ hzd]
                      have hj : j < (Γ.get s).cs.length := (List.getElem?_eq_some_iff.1 hz).1
                      have : (Γ.get s).cs.set j (.c z) = (Γ.get s).cs := by
                        apply List.ext_getElem?
                        intro i
                        by_cases hji : j = i
                        · subst hji; rw [List.getElem?_set_self hj]; exact hz.symm
                        · rw [List.getElem?_set_ne hji]
                      rw [this]
                  · rfl
              · have hpos : 0 < n / sz := by
                  rcases Nat.eq_zero_or_pos (n / sz) with e0 | e0
                  · have := mul_of_div h4; rw [e0, Nat.zero_mul] at this; omega
                  · exact e0
                have hyr : yrow ≠ [] := by intro e; subst e; simp at h1; omega
                cases hga : g.a with
                | none =>
                  have := hyh.2.1
                  rw [hga] at this
                  exact absurd this.1 hyr
                | some a =>
                  have ha' : a' = some (a.add lo) := by
                    rcases w4 with w4 | ⟨w4, _⟩
                    · rw [w4, hga]; rfl
                    · exact absurd w1 (by rw [w4]; exact Nat.not_le.2 hpos)
                  obtain ⟨b1, b2, room, b3, b3', cur, e', b4, b5⟩ := own_base hyh rfl (a := a) hga
                  simp only [Cell.row] at b3
                  have hvals : ∀ u ∈ (d.row.take (min d.row.length n)).map Cell.val, oneCell u = true := by
                    intro u hu
                    obtain ⟨q, hq, rfl⟩ := List.mem_map.1 hu
                    exact val_oneCell (holdsL_iff.1 hlh q hq) (all_notdead hcpy q hq)
                  obtain ⟨w', v1, v2, v3, v4⟩ := run_stores (P := P) b1 b4 lo _ (by rw [List.length_map, hk]; omega) hvals
                  rw [List.length_map, hk] at v3 v4
                  refine ⟨w', ?_, by rw [ha']; simp, ?_⟩
                  · intro a2 ha2
                    rw [ha'] at ha2
                    cases ha2
                    exact v1
                  · refine Inv.rewrite (ys := d.row.take (min d.row.length n)) (xs := []) (a := a) (by simpa using hfree) hy rfl hga (setRun_length _ _ _) v2 ?_ ?_ ?_ ?_
                    · intro i
                      by_cases hi : lo ≤ i ∧ i < lo + min d.row.length n
                      · right
                        refine clear_copyable h hy ?_
                        intro q hq
                        refine List.all_eq_true.1 c5 q ?_
                        rw [h2]
                        refine List.mem_of_getElem? (i := i - lo) ?_
                        rw [List.getElem?_take, if_pos (by omega), List.getElem?_drop]
                        rw [show lo + (i - lo) = i by omega]
                        exact hq
                      · left
                        rw [setRun_get _ _ _ _ (by rw [hk]; omega), hk, if_neg hi]; rfl
                    · intro i q hq
                      rw [setRun_get _ _ _ _ (by rw [hk]; omega), hk] at hq
                      by_cases hi : lo ≤ i ∧ i < lo + min d.row.length n
                      · rw [if_pos hi] at hq
                        refine ⟨q.val, ?_, .inr rfl⟩
                        rw [v3 i hi.1 hi.2, List.getElem?_map, hq]; rfl
                      · rw [if_neg hi] at hq
                        obtain ⟨a2, ha2, _, u, u1, u2⟩ := base_cell (c := .sl true sz g yrow) hyh hq
                        simp only [Cell.gh] at ha2
                        rw [hga] at ha2; cases ha2
                        exact ⟨u, by rw [v4 i (by omega)]; exact u1, u2⟩
                    · intro q hq; exact setRun_mem _ _ _ _ hq
                    · exact setRun_foot _ yrow lo (by rw [hk]; omega)
            obtain ⟨w', st1, st2, st3⟩ := hstores
            refine ⟨.int .i64 ((min d.row.length n / sz : Nat) : Int), w', ?_, ?_⟩
            · have emap : (#[x, y] : Array Operand).map (ev tm) = #[ev tm x, ev tm y] := by simp
              have hkk : min d.row.length n / sz = min (d.row.length / sz) (n / sz) := by rw [hmin, Nat.mul_div_cancel _ c3]
              rw [emap, hv]
              have hl := run_lenOf (P := P) s1
              have hfirst' : (Builtin.firstCells (P.cellsOf e) (Nat.min (d.row.length / sz) (n / sz)) (ev tm y)).run P w = .ok ((d.row.take (min d.row.length n)).map Cell.val).toArray w := by
                rw [← c1, List.map_take]; exact hfirst
              rw [hkk]
              cases a' with
              | none =>
                have := st2 rfl
                subst this
                simp [Builtin.copy_, run_underlying hu, hl, hsz, hfirst', goInt]
              | some a =>
                have := st1 a rfl
                simp [Builtin.copy_, run_underlying hu, hl, hsz, hfirst', goInt]
                rw [List.map_take] at this
                simp [this]
            · exact done_sc (Γ := Γ.put r _) st3 ht (.inr rfl) (show isSc _ = true from rfl) rfl
          · cases he
      | _ => simp at he
    | _ => cases hu2 : P.underlying ty with
      | none => rw [hu2] at he; simp at he
      | some dd2 => rw [hu2] at he; cases dd2 <;> simp at he
  · cases he
end Go.Proofs.Ytnmocjhpbobahaa.L
namespace Go.Proofs.Ytnmocjhpbobahaa.L
open Go Go.RowKit

mutual
/-- What is owned through and through lies in any zone that has its blocks. -/
theorem holds_to {w : World} {n0 z : Zn} : ∀ c : GC, c.allOwn = true → (∀ b ∈ foot c, z.has b) → holds w n0 c → holds w z c
  | .sc v, _, _, h => h
  | .dead, _, _, _ => trivial
  | .sl o sz g row, ha, hb, h => by
    simp only [Cell.allOwn, Bool.and_eq_true] at ha
    obtain ⟨rfl, ha⟩ := ha
    obtain ⟨h1, h2, h3⟩ := h
    refine ⟨h1, ?_, holdsL_to row ha (fun b hm => hb b (by simp [foot, hm])) h3⟩
    cases hg : g.a with
    | none => rw [hg] at h2; exact h2
    | some a =>
      rw [hg] at h2
      obtain ⟨a1, a2, a3⟩ := h2
      simp only [if_true] at a3
      exact ⟨a1, a2, by simp only [if_true]; exact ⟨hb a.block (by simp [foot, blockOf, hg]), a3.2⟩⟩
  | .bx o g row, ha, hb, h => by
    simp only [Cell.allOwn, Bool.and_eq_true] at ha
    obtain ⟨rfl, ha⟩ := ha
    obtain ⟨h1, h2, h3⟩ := h
    refine ⟨h1, ?_, holdsL_to row ha (fun b hm => hb b (by simp [foot, hm])) h3⟩
    cases hg : g.a with
    | none => rw [hg] at h2; exact h2
    | some a =>
      rw [hg] at h2
      obtain ⟨a1, a2, a3⟩ := h2
      simp only [if_true] at a3
      exact ⟨a1, a2, by simp only [if_true]; exact ⟨hb a.block (by simp [foot, blockOf, hg]), a3.2⟩⟩
theorem holdsL_to {w : World} {n0 z : Zn} : ∀ l : List GC, allOwnL l = true → (∀ b ∈ footL l, z.has b) → holdsL w n0 l → holdsL w z l
  | [], _, _, _ => trivial
  | c :: l, ha, hb, h => by
    simp only [allOwnL, Bool.and_eq_true] at ha
    exact ⟨holds_to c ha.1 (fun b hm => hb b (by simp [footL, hm])) h.1, holdsL_to l ha.2 (fun b hm => hb b (by simp [footL, hm])) h.2⟩
end
/-- Down a path: what lies there comes back, changed below; the tree stands. -/
theorem holds_back {w w' : World} {n0 : Zn} (hn0 : n0.n ≤ w.heap.size) : ∀ (p : List Nat) (c d : GC) (l : List GC), c.getC p = some d → d.isOwn = true → holds w n0 c → (foot c).Nodup → (∀ b, b < w.heap.size → b ∉ foot d → Same w w' b) → (∀ b ∈ foot d, n0.has b) →
    holds w' n0 (d.withRow l) → l.length = d.row.length → holds w' n0 (c.setC p (d.withRow l))
  | [], c, d, l, _, _, _, _, _, _, hd, _ => hd
  | j :: q, c, d, l, hg, ho, hc, hn, hS, hB, hd, hl => by
    obtain ⟨hco, e, he, hed⟩ := getC_cons hg
    simp only [Cell.setC, he]
    have hj : j < c.row.length := (List.getElem?_eq_some_iff.1 he).1
    have hBe : ∀ b ∈ foot d, b ∈ foot e := fun b hb => getC_foot q e d hed b hb
    have hfrz : ∀ b, ¬ n0.has b → Same w w' b := fun b hb => hS b (Nat.lt_of_lt_of_le (Zn.old hb) hn0) (fun hm => hb (hB b hm))
    have hne : (foot e).Nodup := by
      have := nodup_row hn
      have hp := footL_set c.row j e .dead he
      simp only [foot, List.append_nil] at hp
      exact (List.nodup_append.1 (hp.nodup_iff.2 this)).2.1
    have ih := holds_back hn0 q e d l hed ho (holdsL_get (holds_row hc) he) hne hS hB hd hl
    have hBc : ∀ b ∈ foot d, b ∉ blockOf c.isOwn c.gh := by
      intro b hbd hb
      rw [foot_row] at hn
      exact (List.nodup_append.1 hn).2.2 _ hb _ (mem_footL.2 ⟨e, List.mem_of_getElem? he, hBe b hbd⟩) rfl
    have hother : ∀ i x, c.row[i]? = some x → i ≠ j → holds w' n0 x := by
      intro i x hx hij
      have hxh := holdsL_get (holds_row hc) hx
      refine holds_same x (fun b hb => hS b (foot_lt x hxh b hb).1 fun hm => ?_) hfrz hxh
      exact footL_nodup_get (nodup_row hn) he hx (fun h => hij h.symm) (hBe b hm) hb
    have hhead : (e.setC q (d.withRow l)).isDead = false ∧ (e.setC q (d.withRow l)).val = e.val := by
      cases q with
      | nil =>
        simp only [Cell.getC, Option.some.injEq] at hed
        subst hed
        have hh : (e.withRow l).head = e.head := withRow_head hl
        exact ⟨by cases e <;> simp_all [Cell.setC, Cell.withRow, Cell.isDead, Cell.isOwn], by simpa [Cell.setC] using head_val hh.symm ho⟩
      | cons i q =>
        obtain ⟨ho2, _⟩ := getC_cons hed
        have hh := setC_head (i :: q) e (d.withRow l) (by simp)
        refine ⟨?_, head_val hh.symm ho2⟩
        have := head_own hh.symm ho2
        cases hx : e.setC (i :: q) (d.withRow l) <;> simp_all [Cell.isDead, Cell.isOwn]
    cases hga : c.gh.a with
    | none =>
      obtain ⟨a', ha', _⟩ := base_cell hc he
      rw [hga] at ha'; cases ha'
    | some a0 =>
      obtain ⟨r1, r2, room, r3, r4, cs, ee, r5, r6⟩ := own_base hc hco hga
      have hsame0 : Same w w' a0.block := by
        refine hS _ ?_ (fun hm => hBc _ hm (by simp [blockOf, hco, hga]))
        rcases Nat.lt_or_ge a0.block w.heap.size with h | h
        · exact h
        · simp [Array.getElem?_eq_none h] at r5
      have hcell : ∀ i, w'.cell? (a0.add i) = w.cell? (a0.add i) := by
        intro i
        have e1 : (a0.add i).block = a0.block := by unfold Addr.add; split <;> rfl
        exact World.cell?_of_block (by rw [e1]; exact hsame0)
      have hstand : ∀ i x, (c.row.set j (e.setC q (d.withRow l)))[i]? = some x → ∃ v, w'.cell? (a0.add i) = some v ∧ (x.isDead = true ∨ v = x.val) := by
        intro i x hx
        rw [hcell i]
        rw [List.getElem?_set] at hx
        split at hx
        · next hji =>
          subst hji
          simp only [hj, if_true, Option.some.injEq] at hx
          subst hx
          obtain ⟨a', ha', _, v, hv1, hv2⟩ := base_cell hc he
          rw [hga] at ha'; cases ha'
          refine ⟨v, hv1, ?_⟩
          rcases hv2 with hv2 | hv2
          · have : e.isDead = false := by
              cases q with
              | nil => simp only [Cell.getC, Option.some.injEq] at hed; subst hed; exact isDead_own ho
              | cons i q => exact isDead_own (getC_cons hed).1
            rw [hv2] at this; cases this
          · exact .inr (by rw [hhead.2]; exact hv2)
        · obtain ⟨a', ha', _, v, hv1, hv2⟩ := base_cell hc hx
          rw [hga] at ha'; cases ha'
          exact ⟨v, hv1, hv2⟩
      have hkids : holdsL w' n0 (c.row.set j (e.setC q (d.withRow l))) := by
        rw [holdsL_iff]
        intro x hx
        obtain ⟨i, hi, hxi⟩ := List.mem_iff_getElem.1 hx
        have hx' : (c.row.set j (e.setC q (d.withRow l)))[i]? = some x := by rw [List.getElem?_eq_getElem hi, hxi]
        rw [List.getElem?_set] at hx'
        split at hx'
        · next hji =>
          subst hji
          simp only [hj, if_true, Option.some.injEq] at hx'
          subst hx'
          exact ih
        · next hji => exact hother i x hx' (fun h => hji h.symm)
      cases c with
      | sc v => simp [Cell.isOwn] at hco
      | dead => simp [Cell.isOwn] at hco
      | sl o sz g row =>
        simp only [Cell.isOwn] at hco
        subst hco
        simp only [Cell.gh] at hga
        simp only [Cell.row] at hstand hkids r3 hj
        obtain ⟨h1, h2, _⟩ := hc
        refine ⟨⟨h1.1, by simpa [Cell.row] using h1.2.1, by simpa [Cell.row] using h1.2.2.1, by simp⟩, ?_, hkids⟩
        rw [hga]
        refine ⟨fun _ => r1, hstand, ?_⟩
        simp only [if_true, List.length_set]
        have hrm := r4 _ _ _ _ rfl
        subst hrm
        exact ⟨r2, r3, cs, ee, by rw [← r5]; exact hsame0, r6⟩
      | bx o g row =>
        simp only [Cell.isOwn] at hco
        subst hco
        simp only [Cell.gh] at hga
        simp only [Cell.row] at hstand hkids r3 hj
        obtain ⟨h1, h2, _⟩ := hc
        refine ⟨⟨h1.1, by simp⟩, ?_, hkids⟩
        show base w' n0 true g.a _ _
        rw [hga] at h2 ⊢
        obtain ⟨a1, a2, a3⟩ := h2
        simp only [if_true] at a3
        obtain ⟨b1, b2, cs2, e2, b3, b4⟩ := a3
        refine ⟨fun _ => r1, hstand, ?_⟩
        simp only [if_true, List.length_set]
        exact ⟨b1, by simp [Cell.row], cs2, e2, by rw [← b3]; exact hsame0, by simpa [Cell.row] using b4⟩
/-- WHAT WAS LENT COMES BACK. -/
theorem Inv.lent {w0 : W0} {w w' : World} {Γ : St Gh} {tm : Array Value} (h : Inv w0 Γ [] tm w) {r : Nat} {p : List Nat} {d : GC} {l cs : List GC}
    (hd : (Γ.get r).getP p = some d) (ho : d.isOwn = true) (hl : l.length = d.row.length) (hc : ∀ i, i < d.row.length → Clear Γ r (p ++ [i]))
    (hB : Bel ⟨w.heap.size, foot d⟩ w w') (hown : allOwnL (d.withRow l :: cs) = true) (hh : holdsL w' ⟨w.heap.size, foot d⟩ (d.withRow l :: cs)) (hn : (footL (d.withRow l :: cs)).Nodup) :
    Inv w0 (Γ.put r ((Γ.get r).setP p (d.withRow l))) cs tm w' := by
  cases p with
  | nil => simp [SV.getP] at hd
  | cons j q =>
  obtain ⟨x0, hx0, hx0d⟩ := getP_cell hd
  have hx0h : holds w w0.zn x0 := h.hold r (.c x0) (List.mem_of_getElem? hx0)
  have hdh : holds w w0.zn d := getC_holds q x0 d hx0d hx0h
  have hdf := foot_lt d hdh
  have hlj : j < (Γ.get r).cs.length := (List.getElem?_eq_some_iff.1 hx0).1
  have hset : (Γ.get r).setP (j :: q) (d.withRow l) = ⟨(Γ.get r).k, (Γ.get r).cs.set j (.c (x0.setC q (d.withRow l)))⟩ := by simp only [SV.setP, hx0]
  have hnz : w0.zn.n ≤ w.heap.size := h.below.size
  have hup : ∀ b, (⟨w.heap.size, foot d⟩ : Zn).has b → w0.zn.has b := by
    intro b hb
    rcases hb with hb | hb
    · exact .inl (Nat.le_trans hnz hb)
    · exact (hdf b hb).2
  have hS : ∀ b, b < w.heap.size → b ∉ foot d → Same w w' b := fun b h1 h2 => hB.block b fun hm => by
    rcases hm with hm | hm
    · simp only at hm; omega
    · exact h2 hm
  have hfrz : ∀ b, ¬ w0.zn.has b → Same w w' b := fun b hb => hS b (Nat.lt_of_lt_of_le (Zn.old hb) hnz) (fun hm => hb (hdf b hm).2)
  have hnewz := footL_lt _ hh
  have hdF : ∀ b ∈ foot d, b ∈ footV (Γ.get r) := fun b hb => mem_footL.2 ⟨x0, List.mem_map.2 ⟨.c x0, List.mem_of_getElem? hx0, rfl⟩, getC_foot q x0 d hx0d _ hb⟩
  have hold0 : ∀ s b, b ∈ footV (Γ.get s) → b < w.heap.size := by
    intro s b hb
    obtain ⟨c, hc', hbc⟩ := mem_footL.1 hb
    obtain ⟨x, hx, rfl⟩ := List.mem_map.1 hc'
    exact (sc_foot (h.hold s _ hx) b hbc).1
  -- footprints
  have hp0 := footV_setP (y' := .dead) hd
  simp only [foot, List.append_nil] at hp0
  have hp1 := footV_setP (y' := d.withRow l) hd
  have hperm : (footV ((Γ.get r).setP (j :: q) (d.withRow l))).Perm (footV ((Γ.get r).setP (j :: q) .dead) ++ foot (d.withRow l)) := by
    have e1 : (footV ((Γ.get r).setP (j :: q) (d.withRow l)) ++ foot d).Perm ((footV ((Γ.get r).setP (j :: q) .dead) ++ foot (d.withRow l)) ++ foot d) := by
      refine hp1.trans ?_
      refine (List.Perm.append_right _ hp0.symm).trans ?_
      rw [List.append_assoc, List.append_assoc]
      exact List.Perm.append_left _ List.perm_append_comm
    exact (List.perm_append_right_iff _).1 e1
  have hF0 : ∀ b ∈ footV ((Γ.get r).setP (j :: q) .dead), b ∈ footV (Γ.get r) ∧ b ∉ foot d := by
    intro b hb
    refine ⟨hp0.mem_iff.1 (by simp [hb]), fun hm => ?_⟩
    exact (List.nodup_append.1 (hp0.nodup_iff.2 (h.nod r))).2.2 b hb b hm rfl
  have hnotz : ∀ s b, b ∈ footV (Γ.get s) → b ∉ foot d → ¬ (⟨w.heap.size, foot d⟩ : Zn).has b := by
    intro s b hb hnd hz
    rcases hz with hz | hz
    · have := hold0 s b hb; simp only at hz; omega
    · exact hnd hz
  have hy : ∀ b ∈ foot (d.withRow l), (⟨w.heap.size, foot d⟩ : Zn).has b := fun b hb => (hnewz b (by simp [footL, hb])).2
  have hcsz : ∀ b ∈ footL cs, (⟨w.heap.size, foot d⟩ : Zn).has b := fun b hb => (hnewz b (by simp [footL, hb])).2
  have hN2 : (foot (d.withRow l)).Nodup ∧ (footL cs).Nodup ∧ ∀ b ∈ foot (d.withRow l), b ∉ footL cs := by
    simp only [footL] at hn
    obtain ⟨a1, a2, a3⟩ := List.nodup_append.1 hn
    exact ⟨a1, a2, fun b hb hm => a3 b hb b hm rfl⟩
  have hnew : (footV ((Γ.get r).setP (j :: q) (d.withRow l))).Nodup := by
    refine hperm.nodup_iff.2 (List.nodup_append.2 ⟨(List.nodup_append.1 (hp0.nodup_iff.2 (h.nod r))).1, hN2.1, ?_⟩)
    intro b hb c hc' e
    subst e
    exact hnotz r b (hF0 b hb).1 (hF0 b hb).2 (hy b hc')
  have hsub : ∀ b, b ∈ footV ((Γ.get r).setP (j :: q) (d.withRow l)) → (b ∈ footV (Γ.get r) ∧ b ∉ foot d) ∨ b ∈ foot (d.withRow l) := by
    intro b hb
    rcases List.mem_append.1 (hperm.mem_iff.1 hb) with hb | hb
    · exact .inl (hF0 b hb)
    · exact .inr hb
  have hother : ∀ s b, s ≠ r → b ∈ footV (Γ.get s) → ¬ (⟨w.heap.size, foot d⟩ : Zn).has b := fun s b hs hb => hnotz s b hb fun hm => hs (h.dis s r b hb (hdF b hm))
  have hho : ∀ s x, x ∈ (Γ.get s).cs → (∀ b ∈ foot x.cell, b ∉ foot d) → scHolds w' w0.zn x := fun s x hx hy' =>
    scHolds_same (fun b hb => hS b (sc_foot (h.hold s x hx) b hb).1 (hy' b hb)) hfrz (h.hold s x hx)
  -- heads
  have hhd : ∀ s x, x ∈ (Γ.get s).cs → ∀ u, scRel Γ x u → scRel (Γ.put r ((Γ.get r).setP (j :: q) (d.withRow l))) x u := by
    intro s x hx u hu
    refine scRel_head hu ?_
    intro r' qq z hroot hform hz
    rw [get_put]
    split
    · next e =>
      subst e
      refine getP_setRow hd ho hl hz ?_
      intro i q' hqq
      by_cases hi : i < d.row.length
      case neg => rw [List.getElem?_eq_none (by omega), List.getElem?_eq_none (by omega)]
      have := clear_path (hc i hi) hx hform
      rw [hqq] at this
      exfalso
      have ht : ((j :: q) ++ [i]).isPrefixOf ((j :: q) ++ i :: q') = true := by
        rw [List.isPrefixOf_iff_prefix]
        exact ⟨q', by simp⟩
      rw [ht] at this
      cases this
    · exact ⟨z, hz, rfl⟩
  have hx0n : (foot x0).Nodup := by
    have hp := footL_map_set (z := .dead) hx0
    simp only [foot, List.append_nil] at hp
    exact (List.nodup_append.1 (hp.nodup_iff.2 (h.nod r))).2.1
  simp only [allOwnL, Bool.and_eq_true] at hown
  have hdr : holds w' w0.zn (d.withRow l) := holds_to _ hown.1 (fun b hb => hup b (hy b hb)) hh.1
  have hx0' : holds w' w0.zn (x0.setC q (d.withRow l)) := holds_back hnz q x0 d l hx0d ho hx0h hx0n hS (fun b hb => (hdf b hb).2) hdr hl
  refine ⟨h.below.trans (hB.mono hup), ?_, ?_, ?_, ?_, ?_, hN2.2.1, ?_⟩
  · intro s
    obtain ⟨vs, h1, h2⟩ := h.rel s
    rw [get_put]
    split
    · next e =>
      subst e
      rw [hset]
      refine ⟨vs, ?_, h2⟩
      refine rels_mono h1 (by simp) ?_
      intro i x x' u hx hx' hu
      rw [List.getElem?_set] at hx'
      split at hx'
      · next hji =>
        subst hji
        rw [hx0] at hx
        cases hx
        simp only [hlj, if_true, Option.some.injEq] at hx'
        subst hx'
        have hhead : (x0.setC q (d.withRow l)).head = x0.head := by
          cases q with
          | nil =>
            simp only [Cell.getC, Option.some.injEq] at hx0d
            subst hx0d
            exact withRow_head hl
          | cons i q => exact setC_head _ _ _ (by simp)
        have ho0 : x0.isOwn = true := by
          cases q with
          | nil => simp only [Cell.getC, Option.some.injEq] at hx0d; subst hx0d; exact ho
          | cons i q => exact (getC_cons hx0d).1
        rcases hu with hu | hu
        · rw [isDead_own ho0] at hu; cases hu
        · exact .inr (by rw [hu, head_val hhead.symm ho0])
      · rw [hx] at hx'
        cases hx'
        have := hhd s x (List.mem_of_getElem? hx) u hu
        rw [hset] at this
        exact this
    · exact ⟨vs, rels_mono h1 rfl (fun i x x' u hx hx' hu => by rw [hx] at hx'; cases hx'; exact hhd s x (List.mem_of_getElem? hx) u hu), h2⟩
  · intro s x hx
    rw [get_put] at hx
    split at hx
    · next e =>
      subst e
      rw [hset] at hx
      obtain ⟨i, hi, hxi⟩ := List.mem_iff_getElem.1 hx
      have hx' : ((Γ.get s).cs.set j (.c (x0.setC q (d.withRow l))))[i]? = some x := by
        have := List.getElem?_eq_getElem hi
        rw [this, hxi]
      rw [List.getElem?_set] at hx'
      split at hx'
      · simp only [hlj, if_true, Option.some.injEq] at hx'
        subst hx'
        exact hx0'
      · next hji =>
        refine hho s x (List.mem_of_getElem? hx') ?_
        intro b hb hm
        exact footL_nodup_get (h.nod s) (i := j) (j := i) (x := x0) (by simp [hx0, SC.cell]) (by simp [hx']) hji (getC_foot q x0 d hx0d _ hm) hb
    · next e =>
      refine hho s x hx ?_
      intro b hb hm
      exact e (h.dis s r b (mem_footL.2 ⟨x.cell, List.mem_map.2 ⟨_, hx, rfl⟩, hb⟩) (hdF b hm))
  · exact holdsL_to cs hown.2 (fun b hb => hup b (hcsz b hb)) hh.2
  · intro s
    rw [get_put]
    split
    · exact hnew
    · exact h.nod s
  · intro s t b hs ht
    rw [get_put] at hs ht
    split at hs
    · next e =>
      split at ht
      · next e' => rw [e, e']
      · next e' =>
        rcases hsub b hs with hs | hs
        · exact absurd (h.dis t r b ht hs.1) e'
        · exact absurd (hy b hs) (hother t b e' ht)
    · next e =>
      split at ht
      · rcases hsub b ht with ht | ht
        · exact absurd (h.dis s r b hs ht.1) e
        · exact absurd (hy b ht) (hother s b e hs)
      · exact h.dis s t b hs ht
  · intro s b hb hm
    rw [get_put] at hb
    split at hb
    · rcases hsub b hb with hb | hb
      · exact hnotz r b hb.1 hb.2 (hcsz b hm)
      · exact hN2.2.2 b hb hm
    · next e => exact hother s b e hb (hcsz b hm)
end Go.Proofs.Ytnmocjhpbobahaa.L
