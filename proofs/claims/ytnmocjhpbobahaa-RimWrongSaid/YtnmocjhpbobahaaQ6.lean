/- MB: functions that are lent their first argument: the trees' answer is the function's. -/
import Derived.Test.YtnmocjhpbobahaaQ4
set_option linter.unusedVariables false
set_option linter.unusedSimpArgs false
set_option linter.unnecessarySimpa false
namespace Go.Proofs.Ytnmocjhpbobahaa.L
open Go Go.RowKit

section
variable {α : Type}
def sameHead : Cell α → Cell α → Bool
  | .sl true sz _ r, .sl true sz' _ r' => sz == sz' && r.length == r'.length
  | .bx true _ r, .bx true _ r' => r.length == r'.length
  | _, _ => false
/-- The tree that was lent (slot 0), behind the results. -/
def backOf (σ : St α) (d : Pend α) (y : Cell α) : Option (Cell α) :=
  if ((σ.pend d).get 0).k = .one then match ((σ.pend d).get 0).cs with
    | [x] => match x.place 0 0 with
      | some (r, p) => match takeAt σ d r p with
        | some z => if sameHead y z.1 then some z.1 else none
        | none => none
      | none => none
    | _ => none else none
theorem sameHead_erase (y z : Cell α) : sameHead y.erase z.erase = sameHead y z := by
  cases y with
  | sl o sz a r => cases o <;> cases z with
    | sl o' sz' a' r' => cases o' <;> simp [Cell.erase, sameHead, eraseL_eq]
    | bx o' a' r' => cases o' <;> simp [Cell.erase, sameHead]
    | _ => simp [Cell.erase, sameHead]
  | bx o a r => cases o <;> cases z with
    | sl o' sz' a' r' => cases o' <;> simp [Cell.erase, sameHead]
    | bx o' a' r' => cases o' <;> simp [Cell.erase, sameHead, eraseL_eq]
    | _ => simp [Cell.erase, sameHead]
  | _ => cases z <;> simp [Cell.erase, sameHead]
theorem pend_erase (σ : St α) (d : Pend α) : σ.erase.pend d.erase = (σ.pend d).erase := by
  unfold St.pend
  rw [kill_erase, putAll_erase]
  simp [Pend.erase, eraseCh]
theorem backOf_erase (σ : St α) (d : Pend α) (y : Cell α) : backOf σ.erase d.erase y.erase = (backOf σ d y).map Cell.erase := by
  unfold backOf
  rw [pend_erase, L.get_erase]
  obtain ⟨k, cs, hv⟩ : ∃ k cs, (σ.pend d).get 0 = ⟨k, cs⟩ := ⟨_, _, rfl⟩
  have hv2 : ((σ.pend d).get 0).erase = ⟨k, cs.map SC.erase⟩ := by rw [hv]; rfl
  rw [hv2, hv]
  by_cases hk : k = .one
  case neg => simp only [if_neg hk]; rfl
  simp only [if_pos hk]
  cases cs with
  | nil => rfl
  | cons x l =>
    cases l with
    | cons _ _ => rfl
    | nil =>
      simp only [List.map_cons, List.map_nil, place_erase]
      cases x.place 0 0 with
      | none => rfl
      | some rp =>
        obtain ⟨r, p⟩ := rp
        simp only
        rw [takeAt_erase]
        cases takeAt σ d r p with
        | none => rfl
        | some z =>
          simp only [Option.map_some, eraseTk, sameHead_erase]
          split <;> rfl
end
def lentSV (z : Cell Unit) (r : SV Unit) : SV Unit := ⟨r.k, .c z :: r.cs⟩
/-- A function's answer, by the trees, where it is lent its first argument. -/
def funRunL (P : Program) (reg : FuncId → Nat → Reg) (n : Nat) (f : FuncId) (y : Cell Unit) (as : List (SV Unit)) : Option (SV Unit) := match P.funcs[f]? with
  | some fn => match fn.body with
    | some c => if (as.length < fn.ntmps ∧ fn.ntmps < zeroN) ∧ (fn.name == "runtime.NumGoroutine") = false then match run (reg f (fn.ntmps + zeroN)) n c (argsSt 0 (one (.c y) :: as)) with
      | some (e, σ) => if e = .normal ∨ e = .ret then match resAll P σ pend0 fn.results.toList with
        | some (xs, d) => match backOf σ d y with
          | some z => some (lentSV z (resSV xs))
          | none => none
        | none => none else none
      | none => none else none
    | none => none
  | none => none
theorem place_val {Γ : St Gh} {s r : Nat} {p : List Nat} {x : SC Gh} {y : GC} {u : Value} (hk : (Γ.get s).k = .one) (hcs : (Γ.get s).cs = [x]) (hrel : svRel Γ (Γ.get s) u) (hpl : x.place s 0 = some (r, p)) (hg : (Γ.get r).getP p = some y) (ho : y.isOwn = true) : u = y.val := by
  obtain ⟨us, u1, u2⟩ := hrel
  rw [hcs] at u1
  obtain ⟨v, hv⟩ : ∃ v, us = [v] := by
    cases us with
    | nil => simp [rels] at u1
    | cons v us => cases us with
      | nil => exact ⟨v, rfl⟩
      | cons _ _ => simp [rels] at u1
  subst hv
  have hu1 := u1.1
  rw [hk] at u2
  rw [u2]
  show v = y.val
  cases x with
  | c z =>
    simp only [SC.place] at hpl
    split at hpl
    · next hzo =>
      simp only [Option.some.injEq, Prod.mk.injEq] at hpl
      obtain ⟨rfl, rfl⟩ := hpl
      have : (Γ.get s).getP [0] = some z := by simp [SV.getP, hcs, Cell.getC]
      rw [hg] at this
      obtain rfl := Option.some.inj this
      rcases hu1 with hu1 | hu1
      · rw [isDead_own ho] at hu1; cases hu1
      · exact hu1
    · cases hpl
  | view r' p' =>
    simp only [SC.place, Option.some.injEq, Prod.mk.injEq] at hpl
    obtain ⟨rfl, rfl⟩ := hpl
    obtain ⟨y', v1, _, v3⟩ := hu1
    rw [hg] at v1
    obtain rfl := Option.some.inj v1
    exact v3
  | _ => simp [SC.place] at hpl
/-- A tree with the head of another. -/
theorem same_tree {g z : GC} (hs : sameHead g z = true) (hv : z.val = g.val) : z.row.length = g.row.length ∧ (g.withRow z.row).erase = z.erase ∧ foot (g.withRow z.row) = foot z ∧ ∀ w Z, holds w Z z → holds w Z (g.withRow z.row) := by
  cases g with
  | sl o sz gh r =>
    cases o with
    | false => cases z <;> simp [sameHead] at hs
    | true =>
      cases z with
      | sl o' sz' gh' r' =>
        cases o' with
        | false => simp [sameHead] at hs
        | true =>
          simp only [sameHead, Bool.and_eq_true, beq_iff_eq] at hs
          obtain ⟨rfl, hl⟩ := hs
          simp only [Cell.val, Value.slice.injEq] at hv
          obtain ⟨h1, _, h3⟩ := hv
          obtain ⟨a, cap⟩ := gh
          obtain ⟨a', cap'⟩ := gh'
          simp only at h1 h3
          subst h1 h3
          exact ⟨hl.symm, rfl, rfl, fun _ _ h => h⟩
      | _ => simp [sameHead] at hs
  | bx o gh r =>
    cases o with
    | false => cases z <;> simp [sameHead] at hs
    | true =>
      cases z with
      | bx o' gh' r' =>
        cases o' with
        | false => simp [sameHead] at hs
        | true =>
          simp only [sameHead, beq_iff_eq] at hs
          simp only [Cell.val, Value.pointer.injEq] at hv
          obtain ⟨a, cap⟩ := gh
          obtain ⟨a', cap'⟩ := gh'
          simp only at hv
          subst hv
          refine ⟨hs.symm, by simp [Cell.withRow, Cell.row, Cell.erase], by simp [Cell.withRow, Cell.row, foot, blockOf], fun w Z h => ?_⟩
          obtain ⟨⟨h1, h1'⟩, h2, h3⟩ := h
          exact ⟨⟨h1, h1'⟩, h2, h3⟩
      | _ => simp [sameHead] at hs
  | _ => simp [sameHead] at hs

/-- THE TREES' ANSWER IS THE FUNCTION's. -/
theorem goodL_of_run {P : Program} {reg : FuncId → Nat → Reg} {n : Nat} {f : FuncId} {y : Cell Unit} {as : List (SV Unit)} {R : SV Unit} {T : Nat → Array Oper → Bool → Bool} (hR : ∀ N, RegOk P N (reg f N) T) (hT : ∀ fn c, P.funcs[f]? = some fn → fn.body = some c → codeAll T c = true) (h : funRunL P reg n f y as = some R) : GoodL P f y as R := by
  unfold funRunL at h
  split at h
  · next fn hf =>
    split at h
    · next c hc =>
      split at h
      · next hlen =>
        split at h
        · next e σ hrun =>
          split at h
          · next he =>
            split at h
            · next xs d hxs =>
              split at h
              · next z hz =>
                simp only [Option.some.injEq] at h
                subst h
                refine ⟨⟨fn, hf, by rw [hc]; rfl, hlen.2⟩, ?_⟩
                intro w g gs hy hgo hga hgs hgh hgn hgf
                refine calls_of_wp hf hc ?_
                have hsz : gs.length < fn.ntmps := by have := hlen.1.1; rw [← hgs] at this; simpa using this
                have hargs : (g.val :: gs.map fun g => pack g.1 (g.2.map Cell.val)) = (((.one, [g]) : Kd × List GC) :: gs).map fun g => pack g.1 (g.2.map Cell.val) := rfl
                have hnz : ¬ fn.ntmps + zeroN < zeroN := by omega
                have hrel : Rel ⟨w, foot g, g.val⟩ (fn.ntmps + zeroN) (argsSt 0 (one (.c y) :: as)) ((g.val :: gs.map fun g => pack g.1 (g.2.map Cell.val)).toArray ++ Array.replicate (fn.ntmps - (g.val :: gs.map fun g => pack g.1 (g.2.map Cell.val)).toArray.size) undef) w := by
                  refine ⟨argsSt 0 ((((.one, [g]) : Kd × List GC) :: gs).map fun g => (⟨g.1, g.2.map .c⟩ : SV Gh)), ?_, ?_, ?_, fun _ => by rw [Array.getD_eq_getD_getElem?, Array.getElem?_append_left (by simp)]; simp⟩
                  · rw [argsSt_erase, ← hgs, ← hy]
                    congr 1
                    simp only [List.map_cons, List.map_map, List.map_nil]
                    congr 1
                    refine List.map_congr_left fun g _ => ?_
                    simp [SV.erase, bare, SC.erase]
                  · have := args_inv (foot g) g.val (((.one, [g]) : Kd × List GC) :: gs) (fn.ntmps - (g.val :: gs.map fun g => pack g.1 (g.2.map Cell.val)).toArray.size) (fun x hx => by
                      rcases List.mem_cons.1 hx with rfl | hx
                      · exact ⟨hgh, trivial⟩
                      · exact (hgf x hx).1) (fun i x hx hi => by
                      cases i with
                      | zero => exact absurd rfl hi
                      | succ i =>
                        simp only [List.getElem?_cons_succ] at hx
                        exact (hgf x (List.mem_of_getElem? hx)).2.1) (fun x hx => by
                      simp only [List.getElem?_cons_zero, Option.some.injEq] at hx
                      subst hx
                      simpa [footL] using hgn)
                    exact this
                  · unfold tmN
                    rw [if_neg hnz]
                    simp; omega
                refine run_ok (hR (fn.ntmps + zeroN)) n c _ σ e _ w _ (hT fn c hf hc) hrun hrel ?_
                intro tm' w' ⟨Γ, hΓ, hI, _, hz0⟩
                have hres := resAll_erase P Γ fn.results.toList pend0
                rw [hΓ, pend0_erase, hxs] at hres
                cases hx : resAll P Γ pend0 fn.results.toList with
                | none => rw [hx] at hres; cases hres
                | some q =>
                  obtain ⟨ys, d'⟩ := q
                  rw [hx] at hres
                  simp only [Option.map_some, Option.some.injEq, Prod.mk.injEq] at hres
                  obtain ⟨rfl, rfl⟩ := hres
                  obtain ⟨b1, b2, b3⟩ := resAll_ok hI fn.results.toList pend0 d' [] ys (pend0_inv hI) (pend0_back Γ) hx
                  rw [List.append_nil] at b1
                  obtain ⟨k, hk1, hk2⟩ := @resSV_map ys
                  have hval := results_eq fn tm' w' P b2
                  rw [← hk2 fun x hx => (b3 x hx).2] at hval
                  have hbk := backOf_erase Γ d' g
                  rw [hΓ, hy, hz] at hbk
                  cases hb : backOf Γ d' g with
                  | none => rw [hb] at hbk; cases hbk
                  | some z' =>
                    rw [hb] at hbk
                    simp only [Option.map_some, Option.some.injEq] at hbk
                    subst hbk
                    unfold backOf at hb
                    split at hb
                    · next hk =>
                      split at hb
                      · next x hcs =>
                        split at hb
                        · next r p hpl =>
                          split at hb
                          · next zz htk =>
                            obtain ⟨zz, d2⟩ := zz
                            split at hb
                            · next hsh =>
                              simp only [Option.some.injEq] at hb
                              subst hb
                              simp only at hsh
                              obtain ⟨c1, _, c3, c4, _⟩ := take_ok b1 htk
                              have hzv : zz.val = g.val := by
                                rw [← place_val hk hcs (b1.rel 0) hpl c3 c4]
                                exact hz0 hnz
                              obtain ⟨s1, s2, s3, s4⟩ := same_tree hsh hzv
                              have hpool : holds w' ⟨w.heap.size, foot g⟩ zz ∧ holdsL w' ⟨w.heap.size, foot g⟩ (ys.flatMap fun x => x.2) := c1.pool
                              have hnod := c1.nodP
                              have hfin : (⟨tm', []⟩ : Act).defers = [] ∧ ∃ v, (results fn tm').run P w' = .ok v w' ∧ ∃ k l cs, bare k (g.withRow l :: cs) = lentSV zz.erase (resSV (ys.map fun x => (x.1, x.2.map Cell.erase))) ∧ l.length = g.row.length ∧ Ending.returned v = .returned (pack k (cs.map Cell.val)) ∧ Bel ⟨w.heap.size, foot g⟩ w w' ∧
                                  holdsL w' ⟨w.heap.size, foot g⟩ (g.withRow l :: cs) ∧ (footL (g.withRow l :: cs)).Nodup ∧ ∀ c ∈ cs, c.isDead = false := by
                                refine ⟨rfl, _, hval, k, zz.row, (ys.flatMap fun (x : Kd × List GC) => x.2), ?_, s1, rfl, b1.below, ⟨s4 _ _ hpool.1, hpool.2⟩, ?_, ?_⟩
                                · rw [hk1]
                                  simp [lentSV, bare, s2]
                                · simp only [footL] at hnod ⊢
                                  rw [s3]; exact hnod
                                · intro c hc'
                                  obtain ⟨x, hx1, hx2⟩ := List.mem_flatMap.1 hc'
                                  exact (b3 x hx1).1 c hx2
                              rcases he with rfl | rfl <;> exact hfin
                            · cases hb
                          · cases hb
                        · cases hb
                      · cases hb
                    · cases hb
              · cases h
            · cases h
          · cases h
        · cases h
      · cases h
    · cases h
  · cases h
end Go.Proofs.Ytnmocjhpbobahaa.L
