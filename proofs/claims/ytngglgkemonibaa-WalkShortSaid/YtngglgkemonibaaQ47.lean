/- Sh: what must be in any case, of layer 5. -/
import Derived.Test.YtngglgkemonibaaQ39
import Derived.Test.YtngglgkemonibaaQ40
import Derived.Test.YtngglgkemonibaaQ43
import Derived.Test.YtngglgkemonibaaQ44
import Derived.Test.YtngglgkemonibaaQ46
set_option linter.unusedVariables false
set_option linter.unusedSimpArgs false
set_option linter.unnecessarySimpa false
namespace Go.Proofs.Ytngglgkemonibaa.L
open Go Go.RowKit Go.Proofs.Ytngglgkemonibaa.B Go.Proofs.YtngglgkemonibaaW.PrintWords
set_option linter.unusedVariables false
set_option maxRecDepth 100000
set_option maxHeartbeats 2000000
theorem own_ans {w w' : World} {e : Ending} {l : List Int} (h : ∃ v : Value, e = .returned v ∧ Kd.R (Kd.int .i64) 3 w' w.heap.size (fun _ => True) v l ∧ Below w.heap.size w w') :
    ∃ k cs, bare k cs = ow l ∧ e = .returned (pack k (cs.map Cell.val)) ∧ Below w.heap.size w w' ∧ holdsL w' w.heap.size cs ∧ (footL cs).Nodup ∧ ∀ c ∈ cs, c.isDead = false := by
  obtain ⟨v, rfl, hR, hB⟩ := h
  have ho := Kd.own_of_R hR
  have herase : ∀ l : List Int, eraseL (l.map fun x => (Cell.sc (.int .i64 x) : GC)) = IL l := by
    intro l
    induction l with
    | nil => rfl
    | cons x l ih => simp only [List.map_cons, eraseL, Cell.erase, ih]; rfl
  have hrows : ∀ l : List Int, holdsL w' w.heap.size (l.map fun x => (Cell.sc (.int .i64 x) : GC)) := by
    intro l
    induction l with
    | nil => trivial
    | cons x l ih => exact ⟨rfl, ih⟩
  have hfoot : ∀ l : List Int, footL (l.map fun x => (Cell.sc (.int .i64 x) : GC)) = [] := by
    intro l
    induction l with
    | nil => rfl
    | cons x l ih => simp [footL, foot, ih]
  rcases ho.2 with ⟨rfl, hz⟩ | ⟨g, cap, cur, rfl, hbase, hblk, hn, hmax, hsize, htake⟩
  · obtain rfl := List.eq_nil_of_length_eq_zero hz
    exact ⟨.one, [.sl true 1 ⟨none, 0⟩ []], rfl, rfl, hB, ⟨⟨⟨by decide, rfl, by decide, by simp⟩, ⟨rfl, rfl⟩, trivial⟩, trivial⟩, by simp [footL, foot, blockOf], by simp [Cell.isDead]⟩
  · refine ⟨.one, [.sl true 1 ⟨some ⟨g, 0, none⟩, cap⟩ (l.map fun x => .sc (.int .i64 x))], ?_, ?_, hB, ⟨⟨⟨by decide, Nat.mod_one _, by simpa using hn, by simp⟩, ⟨fun _ => rfl, ?_, ?_⟩, hrows l⟩, trivial⟩, by simp [footL, foot, blockOf, hfoot], by simp [Cell.isDead]⟩
    · simp [bare, Cell.erase, herase]
    · simp [pack, Cell.val]
    · intro i c hc
      rw [List.getElem?_map] at hc
      cases hx : l[i]? with
      | none => rw [hx] at hc; cases hc
      | some x =>
        rw [hx] at hc
        simp only [Option.map_some, Option.some.injEq] at hc
        subst hc
        refine ⟨.int .i64 x, ?_, .inr rfl⟩
        have hil : i < l.length := (List.getElem?_eq_some_iff.1 hx).1
        have h1 : (encs (Value.int .i64) l)[i]? = some (.int .i64 x) := by simp [encs, hx]
        rw [← htake, List.getElem?_take_of_lt (by omega)] at h1
        rw [show (⟨g, 0, none⟩ : Addr).add i = ⟨g, i, none⟩ by simp [Addr.add, eq_comm], blk_cell hblk]
        simpa using h1
    · simp only [if_true]
      exact ⟨hbase, by simpa using hn, cur, 3, hblk, by simp [hsize]⟩
/-- walk.Turn, on any row. -/
def turnP (l : List Int) : List Int := if l.length < 3 ∨ ¬ l.Nodup then l else P.turnRow l
def spec22 : Spec := spec1 asInts fun l => when (l.length ≤ 17592186043904) (ow (turnP l))
theorem ok22 : SpecOk 22 spec22 := by
  intro us r h
  obtain ⟨x, l, rfl, hl, h⟩ := spec1_eq h
  obtain ⟨hlen, rfl⟩ := when_eq h
  rw [asInts_eq hl]
  refine ⟨⟨_, Try.func22, rfl, by decide⟩, fun w gs hgs hh => ?_⟩
  obtain ⟨g1, rfl, e1⟩ := map1 hgs
  obtain ⟨c, rfl, hc⟩ := bare_ints e1
  have hhc := (hh _ (List.mem_cons_self)).1
  obtain ⟨A, cap, hv, hcap, hC⟩ := ints_cell hc hhc.1 (by omega)
  have := P.walk_Turn.calls A cap l (turnP l) w hC hcap (by unfold P.walk_Turn.f; rw [if_pos (by omega)]; rfl)
  have ea : (([(Kd.one, [c])] : List (Kd × List GC)).map fun g => pack g.1 (g.2.map Cell.val)).toArray = #[.slice A l.length cap] := by rw [← hv]; rfl
  rw [ea]
  refine this.mono ?_
  intro e w' h
  exact own_ans h
@[simp] theorem s22 (l : List Int) (h : l.length ≤ 17592186043904) : spec22 [ints l] = some (ow (turnP l)) := by
  unfold spec22; rw [spec1_v _ _ _ _ (asInts_ints l)]; exact when_pos _ h
@[simp] theorem call22 {E : Env} {σ : St Unit} {t : Nat} {l : List Operand} : effCall Try.prog E ΩU σ t 22 l = callO E 22 t (argsOf Try.prog ΩU σ [25] l) := eff_call Try.func22 Try.params22

def sq : List (Int × Int) := [(0, 1), (0, 3), (1, 2), (2, 3)]
def spec20s : Spec := spec4 asGr asInt asInt asInts fun g a b l => when ((g.1 = 4 ∧ g.2 = sq) ∧ (a = 0 ∧ b = 2) ∧ l = [1]) (ow [0, 3, 2])
theorem run20 : fnRun Try.prog (ext env0 32 spec32) tabs 200 20 [gr 4 sq, iv 0, iv 2, ints [1]] = some (ow [0, 3, 2]) := by kernel_rfl
theorem ok20s : SpecOk 20 spec20s := by
  intro us r h
  obtain ⟨x, y, z, u, g, a, b, l, rfl, hg, ha, hb, hl, h⟩ := spec4_eq h
  obtain ⟨⟨⟨h1, h2⟩, ⟨h3, h4⟩, h5⟩, rfl⟩ := when_eq h
  rw [asGr_eq hg, asInt_eq ha, asInt_eq hb, asInts_eq hl, h1, h2, h3, h4, h5]
  exact fnRun_ok (ext_ok env0_ok ok32) tabs_ok run20
/-- A row of rows that is frozen. -/
theorem row_rows : ∀ {row : List GC} {l : List (List Int)}, eraseL row = RL l → row.length = l.length ∧ ∀ (i : Nat) (c : GC), row[i]? = some c → ∃ x, l[i]? = some x ∧ c.erase = .sl false 1 () (IL x)
  | [], [], _ => ⟨rfl, by simp⟩
  | [], x :: l, h => by simp [eraseL, RL] at h
  | c :: row, [], h => by simp [eraseL, RL] at h
  | c :: row, x :: l, h => by
    have h' : c.erase = .sl false 1 () (IL x) ∧ eraseL row = RL l := by simpa [eraseL, RL] using h
    obtain ⟨h1, h2⟩ := row_rows h'.2
    refine ⟨by simp [h1], ?_⟩
    intro i d hd
    cases i with
    | zero =>
      simp only [List.getElem?_cons_zero, Option.some.injEq] at hd
      subst hd
      exact ⟨x, rfl, h'.1⟩
    | succ i => exact h2 i d hd
theorem rows_cell {w : World} {n0 : Nat} {c : GC} {l : List (List Int)} (hc : c.erase = .sl false 1 () (RL l)) (hh : holds w n0 c) (hl : l.length ≤ 9223372036854775807) (hr : ∀ r ∈ l, r.length ≤ 9223372036854775807) :
    ∃ A cap, c.val = .slice A l.length cap ∧ l.length ≤ cap ∧ Kd.C (Kd.slice 3 (Kd.int .i64)) w A l.length l := by
  cases c with
  | sl o sz g row =>
    simp only [Cell.erase, Cell.sl.injEq] at hc
    obtain ⟨rfl, rfl, _, hrow⟩ := hc
    obtain ⟨hlen, hget⟩ := row_rows hrow
    obtain ⟨⟨_, _, hcap, _⟩, hbase, hrows⟩ := hh
    refine ⟨g.a, g.cap, by simp [Cell.val, hlen], by simpa [hlen] using hcap, rfl, hl, fun hn => ?_⟩
    cases ha : g.a with
    | none => rw [ha] at hbase; obtain ⟨h1, _⟩ := hbase; subst h1; simp at hlen; omega
    | some a =>
      rw [ha] at hbase
      obtain ⟨_, h2, _⟩ := hbase
      refine ⟨a, rfl, fun j p hj => ?_⟩
      have hjl : j < row.length := by rw [hlen]; exact (List.getElem?_eq_some_iff.1 hj).1
      obtain ⟨x, hx, hcx⟩ := hget j _ (List.getElem?_eq_getElem hjl)
      obtain ⟨v, hv, hd⟩ := h2 j _ (List.getElem?_eq_getElem hjl)
      rw [hj] at hx
      obtain rfl := Option.some.inj hx
      obtain ⟨A, cap, hval, hcap2, hC⟩ := ints_cell hcx (holdsL_iff.1 hrows _ (List.getElem_mem hjl)) (hr p (List.mem_of_getElem? hj))
      refine ⟨[.slice A p.length cap], rfl, ⟨A, cap, rfl, hcap2, hC⟩, fun i u hu => ?_⟩
      cases i with
      | succ i => simp at hu
      | zero =>
        simp only [List.getElem?_cons_zero, Option.some.injEq] at hu
        subst hu
        show w.cell? (a.add (j * 1 + 0)) = _
        rcases hd with hd | hd
        · rw [← isDead_erase] at hd
          rw [hcx] at hd
          cases hd
        · rw [show j * 1 + 0 = j by omega, hv, hd, hval]
  | _ => simp [Cell.erase] at hc
theorem sorted_one {l s : List Int} (hp : l.Perm s) (hs : s.Pairwise (· ≤ ·)) : P.sortI l = s :=
  ((P.sortI_perm l).trans hp).eq_of_pairwise (fun a b _ _ h1 h2 => Int.le_antisymm h1 h2) (P.sortI_sorted l) hs
theorem apart1 : P.walk_Apart.f 60 [[0, 1, 2], [0, 3, 2]] = some true := by
  have h : P.walk_Apart.f 60 [[0, 1, 2], [0, 3, 2]] = (P.slices_Sort_int_int.f [0, 1, 2, 0, 3, 2]).bind fun t => P.walk_Apart.l1 57 t [[0, 1, 2], [0, 3, 2]] 2 0 := by kernel_rfl
  have h2 : P.walk_Apart.l1 57 [0, 0, 1, 2, 2, 3] [[0, 1, 2], [0, 3, 2]] 2 0 = some true := by kernel_rfl
  have h3 : P.slices_Sort_int_int.f [0, 1, 2, 0, 3, 2] = some [0, 0, 1, 2, 2, 3] := by
    unfold P.slices_Sort_int_int.f
    rw [if_pos (by decide), sorted_one (s := [0, 0, 1, 2, 2, 3]) (by decide) (by decide)]
  rw [h, h3, Option.bind_some]
  exact h2
theorem apart2 : P.walk_Apart.f 60 [[0, 1, 2], [1, 3]] = some false := by
  have h : P.walk_Apart.f 60 [[0, 1, 2], [1, 3]] = (P.slices_Sort_int_int.f [0, 1, 2, 1, 3]).bind fun t => P.walk_Apart.l1 57 t [[0, 1, 2], [1, 3]] 2 0 := by kernel_rfl
  have h2 : P.walk_Apart.l1 57 [0, 1, 1, 2, 3] [[0, 1, 2], [1, 3]] 2 0 = some false := by kernel_rfl
  have h3 : P.slices_Sort_int_int.f [0, 1, 2, 1, 3] = some [0, 1, 1, 2, 3] := by
    unfold P.slices_Sort_int_int.f
    rw [if_pos (by decide), sorted_one (s := [0, 1, 1, 2, 3]) (by decide) (by decide)]
  rw [h, h3, Option.bind_some]
  exact h2
theorem good24 {k : Nat} {l : List (List Int)} {b : Bool} (hl : l.length ≤ 1000) (hr : ∀ r ∈ l, r.length ≤ 1000) (hf : P.walk_Apart.f k l = some b) : L.Good Try.prog 24 [rows l] (bv b) := by
  refine ⟨⟨_, Try.func24, rfl, by decide⟩, fun w gs hgs hh => ?_⟩
  obtain ⟨g1, rfl, e1⟩ := map1 hgs
  obtain ⟨kd, cs⟩ := g1
  simp only [bare, SV.mk.injEq] at e1
  obtain ⟨rfl, e1⟩ := e1
  obtain ⟨c, rfl, e1⟩ := map1 e1
  have hhc := (hh _ (List.mem_cons_self)).1
  obtain ⟨A, cap, hv, hcap, hC⟩ := rows_cell (by simpa using e1) hhc.1 (by omega) (fun r h => by have := hr r h; omega)
  have := P.walk_Apart.calls k A cap l b w hC hcap hf
  have ea : (([(Kd.one, [c])] : List (Kd × List GC)).map fun g => pack g.1 (g.2.map Cell.val)).toArray = #[.slice A l.length cap] := by rw [← hv]; rfl
  rw [ea]
  refine this.mono ?_
  intro e w' h
  exact bool_ans h
def spec24s : Spec := spec1 asRows fun l => if l = [[0, 1, 2], [0, 3, 2]] then some (bv true) else if l = [[0, 1, 2], [1, 3]] then some (bv false) else none
theorem ok24s : SpecOk 24 spec24s := by
  intro us r h
  obtain ⟨x, l, rfl, hl, h⟩ := spec1_eq h
  rw [asRows_eq hl]
  split at h
  · next e => simp only [Option.some.injEq] at h; subst h; rw [e]; exact good24 (by decide) (by decide) apart1
  · split at h
    · next e => simp only [Option.some.injEq] at h; subst h; rw [e]; exact good24 (by decide) (by decide) apart2
    · cases h
theorem sq_right : RightG 4 sq := of_decide_eq_true (by kernel_rfl)
theorem whole1 : wholeB 4 sq [1, 0] = true := by
  rw [wholeB_iff]
  refine ⟨sq_right, by decide, by decide, of_decide_eq_true (by kernel_rfl), ?_⟩
  intro v hv
  have h0 : nth [1, 0] 0 = 1 := rfl
  rw [h0]
  rcases List.mem_cons.1 hv with rfl | hv
  · exact .base
  · rw [List.mem_singleton.1 hv]; exact Reach.base.step (.inr (by decide)) (by decide)
theorem whole2 : wholeB 4 sq [1, 3] = false := by
  rw [Bool.eq_false_iff]
  intro h
  have h3 := ((wholeB_iff _ _ _).1 h).2.2.2.2 3 (by decide)
  have : (3 : Int) ∈ [1] := h3.closed (by decide) (by
    intro b hb c hc hcl
    rw [List.mem_singleton.1 hb] at hc
    rcases List.mem_cons.1 hcl with rfl | hcl
    · simp
    · rw [List.mem_singleton.1 hcl] at hc
      exact absurd hc (of_decide_eq_false (by kernel_rfl)))
  exact absurd this (by decide)
def spec16s : Spec := spec2 asGr asInts fun g l => if g.1 = 4 ∧ g.2 = sq then (if l = [1, 0] then some (bv true) else if l = [1, 3] then some (bv false) else none) else none
theorem ok16s : SpecOk 16 spec16s := by
  intro us r h
  obtain ⟨x, y, g, l, rfl, hg, hl, h⟩ := spec2_eq h
  rw [asGr_eq hg, asInts_eq hl]
  split at h
  · next e =>
    rw [e.1, e.2]
    split at h
    · next e2 => simp only [Option.some.injEq] at h; subst h; rw [e2]; exact ok16 ok33 _ _ (by rw [s16 _ _ _ (by decide), whole1])
    · split at h
      · next e2 => simp only [Option.some.injEq] at h; subst h; rw [e2]; exact ok16 ok33 _ _ (by rw [s16 _ _ _ (by decide), whole2])
      · cases h
  · cases h
def E11 : Env := ext (ext (ext (ext (ext (ext env0 20 spec20s) 22 spec22) 12 spec12) 14 spec14) 16 spec16s) 24 spec24s
theorem E11_ok : EnvOk Try.prog E11 := ext_ok (ext_ok (ext_ok (ext_ok (ext_ok (ext_ok env0_ok ok20s) ok22) (ok12 ok31 ok33)) (ok14 ok31 ok33)) ok16s) ok24s
theorem run11 : fnRun Try.prog E11 tabs2 50 11 [] = some (bv true) := by kernel_rfl
theorem good11 : L.Good Try.prog 11 [] (bv true) := fnRun_ok E11_ok tabs2_ok run11
def spec11 : Spec := fun us => match us with
  | [] => some (bv true)
  | _ => none
theorem ok11 : SpecOk 11 spec11 := by
  intro us r h
  cases us with
  | nil => simp only [spec11, Option.some.injEq] at h; subst h; exact good11
  | cons _ _ => cases h
@[simp] theorem s11 : spec11 [] = some (bv true) := rfl
@[simp] theorem call11 {E : Env} {σ : St Unit} {t : Nat} {l : List Operand} : effCall Try.prog E ΩU σ t 11 l = callO E 11 t (argsOf Try.prog ΩU σ [] l) := eff_call Try.func11 Try.params11
end Go.Proofs.Ytngglgkemonibaa.L
