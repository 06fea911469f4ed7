/- MB: functions that are lent their first argument: the trees' answer is the function's. M31: regions by a table; functions by a table. M32: runs, by what is to hold behind them. -/
import Derived.Test.YtnmocjhpbobahaaQ4
import Derived.Test.YtnmocjhpbobahaaQ5
set_option linter.unusedVariables false
set_option linter.unusedSimpArgs false
set_option linter.unnecessarySimpa false
namespace Go.Proofs.Ytnmocjhpbobahaa.L
open Go Go.RowKit

section
variable {α : Type}
def sameHead : Cell α → Cell α → Bool
  | .sl true sz _ r, .sl true sz' _ r' => sz == sz' && r.length == r'.length
  | .bx true _ r, .bx true _ r' => r.length == r'.length
  | _, _ => false
/-- The tree that was lent (slot 0), behind the results. -/
def backOf (σ : St α) (d : Pend α) (y : Cell α) : Option (Cell α) :=
  if ((σ.pend d).get 0).k = .one then match ((σ.pend d).get 0).cs with
    | [x] => match x.place 0 0 with
      | some (r, p) => match takeAt σ d r p with
        | some z => if sameHead y z.1 then some z.1 else none
        | none => none
      | none => none
    | _ => none else none
theorem sameHead_erase (y z : Cell α) : sameHead y.erase z.erase = sameHead y z := by
  cases y with
  | sl o sz a r => cases o <;> cases z with
    | sl o' sz' a' r' => cases o' <;> simp [Cell.erase, sameHead, eraseL_eq]
    | bx o' a' r' => cases o' <;> simp [Cell.erase, sameHead]
    | _ => simp [Cell.erase, sameHead]
  | bx o a r => cases o <;> cases z with
    | sl o' sz' a' r' => cases o' <;> simp [Cell.erase, sameHead]
    | bx o' a' r' => cases o' <;> simp [Cell.erase, sameHead, eraseL_eq]
    | _ => simp [Cell.erase, sameHead]
  | _ => cases z <;> simp [Cell.erase, sameHead]
theorem pend_erase (σ : St α) (d : Pend α) : σ.erase.pend d.erase = (σ.pend d).erase := by
  unfold St.pend
  rw [kill_erase, putAll_erase]
  simp [Pend.erase, eraseCh]
theorem backOf_erase (σ : St α) (d : Pend α) (y : Cell α) : backOf σ.erase d.erase y.erase = (backOf σ d y).map Cell.erase := by
  unfold backOf
  rw [pend_erase, L.get_erase]
  obtain ⟨k, cs, hv⟩ : ∃ k cs, (σ.pend d).get 0 = ⟨k, cs⟩ := ⟨_, _, rfl⟩
  have hv2 : ((σ.pend d).get 0).erase = ⟨k, cs.map SC.erase⟩ := by rw [hv]; rfl
  rw [hv2, hv]
  by_cases hk : k = .one
  case neg => simp only [if_neg hk]; rfl
  simp only [if_pos hk]
  cases cs with
  | nil => rfl
  | cons x l =>
    cases l with
    | cons _ _ => rfl
    | nil =>
      simp only [List.map_cons, List.map_nil, place_erase]
      cases x.place 0 0 with
      | none => rfl
      | some rp =>
        obtain ⟨r, p⟩ := rp
        simp only
        rw [takeAt_erase]
        cases takeAt σ d r p with
        | none => rfl
        | some z =>
          simp only [Option.map_some, eraseTk, sameHead_erase]
          split <;> rfl
end
def lentSV (z : Cell Unit) (r : SV Unit) : SV Unit := ⟨r.k, .c z :: r.cs⟩
/-- A function's answer, by the trees, where it is lent its first argument. -/
def funRunL (P : Program) (reg : FuncId → Nat → Reg) (n : Nat) (f : FuncId) (y : Cell Unit) (as : List (SV Unit)) : Option (SV Unit) := match P.funcs[f]? with
  | some fn => match fn.body with
    | some c => if (as.length < fn.ntmps ∧ fn.ntmps < zeroN) ∧ (fn.name == "runtime.NumGoroutine") = false then match run (reg f (fn.ntmps + zeroN)) n c (argsSt 0 (one (.c y) :: as)) with
      | some (e, σ) => if e = .normal ∨ e = .ret then match resAll P σ pend0 fn.results.toList with
        | some (xs, d) => match backOf σ d y with
          | some z => some (lentSV z (resSV xs))
          | none => none
        | none => none else none
      | none => none else none
    | none => none
  | none => none
theorem place_val {Γ : St Gh} {s r : Nat} {p : List Nat} {x : SC Gh} {y : GC} {u : Value} (hk : (Γ.get s).k = .one) (hcs : (Γ.get s).cs = [x]) (hrel : svRel Γ (Γ.get s) u) (hpl : x.place s 0 = some (r, p)) (hg : (Γ.get r).getP p = some y) (ho : y.isOwn = true) : u = y.val := by
  obtain ⟨us, u1, u2⟩ := hrel
  rw [hcs] at u1
  obtain ⟨v, hv⟩ : ∃ v, us = [v] := by
    cases us with
    | nil => simp [rels] at u1
    | cons v us => cases us with
      | nil => exact ⟨v, rfl⟩
      | cons _ _ => simp [rels] at u1
  subst hv
  have hu1 := u1.1
  rw [hk] at u2
  rw [u2]
  show v = y.val
  cases x with
  | c z =>
    simp only [SC.place] at hpl
    split at hpl
    · next hzo =>
      simp only [Option.some.injEq, Prod.mk.injEq] at hpl
      obtain ⟨rfl, rfl⟩ := hpl
      have : (Γ.get s).getP [0] = some z := by simp [SV.getP, hcs, Cell.getC]
      rw [hg] at this
      obtain rfl := Option.some.inj this
      rcases hu1 with hu1 | hu1
      · rw [isDead_own ho] at hu1; cases hu1
      · exact hu1
    · cases hpl
  | view r' p' =>
    simp only [SC.place, Option.some.injEq, Prod.mk.injEq] at hpl
    obtain ⟨rfl, rfl⟩ := hpl
    obtain ⟨y', v1, _, v3⟩ := hu1
    rw [hg] at v1
    obtain rfl := Option.some.inj v1
    exact v3
  | _ => simp [SC.place] at hpl
/-- A tree with the head of another. -/
theorem same_tree {g z : GC} (hs : sameHead g z = true) (hv : z.val = g.val) : z.row.length = g.row.length ∧ (g.withRow z.row).erase = z.erase ∧ foot (g.withRow z.row) = foot z ∧ ∀ w Z, holds w Z z → holds w Z (g.withRow z.row) := by
  cases g with
  | sl o sz gh r =>
    cases o with
    | false => cases z <;> simp [sameHead] at hs
    | true =>
      cases z with
      | sl o' sz' gh' r' =>
        cases o' with
        | false => simp [sameHead] at hs
        | true =>
          simp only [sameHead, Bool.and_eq_true, beq_iff_eq] at hs
          obtain ⟨rfl, hl⟩ := hs
          simp only [Cell.val, Value.slice.injEq] at hv
          obtain ⟨h1, _, h3⟩ := hv
          obtain ⟨a, cap⟩ := gh
          obtain ⟨a', cap'⟩ := gh'
          simp only at h1 h3
          subst h1 h3
          exact ⟨hl.symm, rfl, rfl, fun _ _ h => h⟩
      | _ => simp [sameHead] at hs
  | bx o gh r =>
    cases o with
    | false => cases z <;> simp [sameHead] at hs
    | true =>
      cases z with
      | bx o' gh' r' =>
        cases o' with
        | false => simp [sameHead] at hs
        | true =>
          simp only [sameHead, beq_iff_eq] at hs
          simp only [Cell.val, Value.pointer.injEq] at hv
          obtain ⟨a, cap⟩ := gh
          obtain ⟨a', cap'⟩ := gh'
          simp only at hv
          subst hv
          refine ⟨hs.symm, by simp [Cell.withRow, Cell.row, Cell.erase], by simp [Cell.withRow, Cell.row, foot, blockOf], fun w Z h => ?_⟩
          obtain ⟨⟨h1, h1'⟩, h2, h3⟩ := h
          exact ⟨⟨h1, h1'⟩, h2, h3⟩
      | _ => simp [sameHead] at hs
  | _ => simp [sameHead] at hs

/-- THE TREES' ANSWER IS THE FUNCTION's. -/
theorem goodL_of_run {P : Program} {reg : FuncId → Nat → Reg} {n : Nat} {f : FuncId} {y : Cell Unit} {as : List (SV Unit)} {R : SV Unit} {T : Nat → Array Oper → Bool → Bool} (hR : ∀ N, RegOk P N (reg f N) T) (hT : ∀ fn c, P.funcs[f]? = some fn → fn.body = some c → codeAll T c = true) (h : funRunL P reg n f y as = some R) : GoodL P f y as R := by
  unfold funRunL at h
  split at h
  · next fn hf =>
    split at h
    · next c hc =>
      split at h
      · next hlen =>
        split at h
        · next e σ hrun =>
          split at h
          · next he =>
            split at h
            · next xs d hxs =>
              split at h
              · next z hz =>
                simp only [Option.some.injEq] at h
                subst h
                refine ⟨⟨fn, hf, by rw [hc]; rfl, hlen.2⟩, ?_⟩
                intro w g gs hy hgo hga hgs hgh hgn hgf
                refine calls_of_wp hf hc ?_
                have hsz : gs.length < fn.ntmps := by have := hlen.1.1; rw [← hgs] at this; simpa using this
                have hargs : (g.val :: gs.map fun g => pack g.1 (g.2.map Cell.val)) = (((.one, [g]) : Kd × List GC) :: gs).map fun g => pack g.1 (g.2.map Cell.val) := rfl
                have hnz : ¬ fn.ntmps + zeroN < zeroN := by omega
                have hrel : Rel ⟨w, foot g, g.val⟩ (fn.ntmps + zeroN) (argsSt 0 (one (.c y) :: as)) ((g.val :: gs.map fun g => pack g.1 (g.2.map Cell.val)).toArray ++ Array.replicate (fn.ntmps - (g.val :: gs.map fun g => pack g.1 (g.2.map Cell.val)).toArray.size) undef) w := by
                  refine ⟨argsSt 0 ((((.one, [g]) : Kd × List GC) :: gs).map fun g => (⟨g.1, g.2.map .c⟩ : SV Gh)), ?_, ?_, ?_, fun _ => by rw [Array.getD_eq_getD_getElem?, Array.getElem?_append_left (by simp)]; simp⟩
                  · rw [argsSt_erase, ← hgs, ← hy]
                    congr 1
                    simp only [List.map_cons, List.map_map, List.map_nil]
                    congr 1
                    refine List.map_congr_left fun g _ => ?_
                    simp [SV.erase, bare, SC.erase]
                  · have := args_inv (foot g) g.val (((.one, [g]) : Kd × List GC) :: gs) (fn.ntmps - (g.val :: gs.map fun g => pack g.1 (g.2.map Cell.val)).toArray.size) (fun x hx => by
                      rcases List.mem_cons.1 hx with rfl | hx
                      · exact ⟨hgh, trivial⟩
                      · exact (hgf x hx).1) (fun i x hx hi => by
                      cases i with
                      | zero => exact absurd rfl hi
                      | succ i =>
                        simp only [List.getElem?_cons_succ] at hx
                        exact (hgf x (List.mem_of_getElem? hx)).2.1) (fun x hx => by
                      simp only [List.getElem?_cons_zero, Option.some.injEq] at hx
                      subst hx
                      simpa [footL] using hgn)
                    exact this
                  · unfold tmN
                    rw [if_neg hnz]
                    simp; omega
                refine run_ok (hR (fn.ntmps + zeroN)) n c _ σ e _ w _ (hT fn c hf hc) hrun hrel ?_
                intro tm' w' ⟨Γ, hΓ, hI, _, hz0⟩
                have hres := resAll_erase P Γ fn.results.toList pend0
                rw [hΓ, pend0_erase, hxs] at hres
                cases hx : resAll P Γ pend0 fn.results.toList with
                | none => rw [hx] at hres; cases hres
                | some q =>
                  obtain ⟨ys, d'⟩ := q
                  rw [hx] at hres
                  simp only [Option.map_some, Option.some.injEq, Prod.mk.injEq] at hres
                  obtain ⟨rfl, rfl⟩ := hres
                  obtain ⟨b1, b2, b3⟩ := resAll_ok hI fn.results.toList pend0 d' [] ys (pend0_inv hI) (pend0_back Γ) hx
                  rw [List.append_nil] at b1
                  obtain ⟨k, hk1, hk2⟩ := @resSV_map ys
                  have hval := results_eq fn tm' w' P b2
                  rw [← hk2 fun x hx => (b3 x hx).2] at hval
                  have hbk := backOf_erase Γ d' g
                  rw [hΓ, hy, hz] at hbk
                  cases hb : backOf Γ d' g with
                  | none => rw [hb] at hbk; cases hbk
                  | some z' =>
                    rw [hb] at hbk
                    simp only [Option.map_some, Option.some.injEq] at hbk
                    subst hbk
                    unfold backOf at hb
                    split at hb
                    · next hk =>
                      split at hb
                      · next x hcs =>
                        split at hb
                        · next r p hpl =>
                          split at hb
                          · next zz htk =>
                            obtain ⟨zz, d2⟩ := zz
                            split at hb
                            · next hsh =>
                              simp only [Option.some.injEq] at hb
                              subst hb
                              simp only at hsh
                              obtain ⟨c1, _, c3, c4, _⟩ := take_ok b1 htk
                              have hzv : zz.val = g.val := by
                                rw [← place_val hk hcs (b1.rel 0) hpl c3 c4]
                                exact hz0 hnz
                              obtain ⟨s1, s2, s3, s4⟩ := same_tree hsh hzv
                              have hpool : holds w' ⟨w.heap.size, foot g⟩ zz ∧ holdsL w' ⟨w.heap.size, foot g⟩ (ys.flatMap fun x => x.2) := c1.pool
                              have hnod := c1.nodP
                              have hfin : (⟨tm', []⟩ : Act).defers = [] ∧ ∃ v, (results fn tm').run P w' = .ok v w' ∧ ∃ k l cs, bare k (g.withRow l :: cs) = lentSV zz.erase (resSV (ys.map fun x => (x.1, x.2.map Cell.erase))) ∧ l.length = g.row.length ∧ Ending.returned v = .returned (pack k (cs.map Cell.val)) ∧ Bel ⟨w.heap.size, foot g⟩ w w' ∧
                                  holdsL w' ⟨w.heap.size, foot g⟩ (g.withRow l :: cs) ∧ (footL (g.withRow l :: cs)).Nodup ∧ ∀ c ∈ cs, c.isDead = false := by
                                refine ⟨rfl, _, hval, k, zz.row, (ys.flatMap fun (x : Kd × List GC) => x.2), ?_, s1, rfl, b1.below, ⟨s4 _ _ hpool.1, hpool.2⟩, ?_, ?_⟩
                                · rw [hk1]
                                  simp [lentSV, bare, s2]
                                · simp only [footL] at hnod ⊢
                                  rw [s3]; exact hnod
                                · intro c hc'
                                  obtain ⟨x, hx1, hx2⟩ := List.mem_flatMap.1 hc'
                                  exact (b3 x hx1).1 c hx2
                              rcases he with rfl | rfl <;> exact hfin
                            · cases hb
                          · cases hb
                        · cases hb
                      · cases hb
                    · cases hb
              · cases h
            · cases h
          · cases h
        · cases h
      · cases h
    · cases h
  · cases h
end Go.Proofs.Ytnmocjhpbobahaa.L
namespace Go.Proofs.Ytnmocjhpbobahaa.L
open Go Go.RowKit

section
variable {α : Type}
/-- The slots of K, in this order; the rest is forgotten. -/
def St.pick (K : List Nat) (σ : St α) : St α := K.map fun s => (s, (σ.get s).only K)
theorem lookup_map_self {β : Type} (f : Nat → β) (t : Nat) : ∀ K : List Nat, (K.map fun s => (s, f s)).lookup t = if K.contains t then some (f t) else none
  | [] => rfl
  | s :: K => by
    simp only [List.map_cons, List.lookup, List.contains_cons]
    by_cases h : t = s
    · subst h; simp
    · have hb : (t == s) = false := by simpa using h
      rw [hb, lookup_map_self f t K]
      simp
theorem get_pick (K : List Nat) (σ : St α) (t : Nat) : (St.pick K σ).get t = if K.contains t then (σ.get t).only K else SV.dead := by
  unfold St.get St.pick
  rw [lookup_map_self (fun s => (St.get σ s).only K)]
  split
  · next v hv =>
    split at hv
    · next hk => rw [if_pos hk]; simp only [Option.some.injEq] at hv; exact hv.symm
    · cases hv
  · next hv =>
    split at hv
    · cases hv
    · next hk => rw [if_neg hk]
theorem onlySV_erase (K : List Nat) (v : SV α) : (v.only K).erase = v.erase.only K := by
  have hsc : ∀ x : SC α, (SC.only K x).erase = SC.only K x.erase := by
    intro x
    cases x with
    | view r p =>
      by_cases hr : K.contains r = true
      · simp only [SC.only, SC.erase, if_pos hr]
      · simp only [SC.only, SC.erase, if_neg hr]
    | win r p lo n f =>
      by_cases hr : K.contains r = true
      · simp only [SC.only, SC.erase, if_pos hr]
      · simp only [SC.only, SC.erase, if_neg hr]
    | ref r p off m =>
      by_cases hr : K.contains r = true
      · simp only [SC.only, SC.erase, if_pos hr]
      · simp only [SC.only, SC.erase, if_neg hr]
    | _ => rfl
  simp [SV.only, SV.erase, hsc]
theorem pick_erase (K : List Nat) (σ : St α) : (St.pick K σ).erase = St.pick K σ.erase := by
  unfold St.pick St.erase
  rw [List.map_map]
  refine List.map_congr_left fun s _ => ?_
  simp only [Function.comp, onlySV_erase]
  have := get_erase σ s
  unfold St.erase at this
  rw [this]
theorem pick_congr {K : List Nat} {σ σ' : St α} (h : ∀ s, σ'.get s = σ.get s) : St.pick K σ' = St.pick K σ := by
  unfold St.pick
  exact List.map_congr_left fun s _ => by rw [h s]
end
theorem Rel.pick {w0 : W0} {w : World} {N : Nat} {σ : St Unit} {tm : Array Value} (h : Rel w0 N σ tm w) (K : List Nat) : Rel w0 N (St.pick K σ) tm w := by
  obtain ⟨Γ, h1, h2, h3⟩ := h
  exact ⟨St.pick K Γ, by rw [pick_erase, h1], (h2.only K).congr (fun s => by rw [get_pick, get_only]), h3⟩

/-! ### the shape of a region -/
def maskOf (A : List Nat) (l : List Edge) : Nat → Nat := l.foldl fun s e => if Region.binds .any e = true then s ||| (2 ^ e.on ||| A.getD e.on 0) else s
theorem mask_bit (A : List Nat) (b : Nat) : ∀ (l : List Edge) (s : Nat), (maskOf A l s).testBit b = true → s.testBit b = true ∨ ∃ e ∈ l, Region.binds .any e = true ∧ (b = e.on ∨ (A.getD e.on 0).testBit b = true)
  | [], s, h => .inl h
  | e :: l, s, h => by
    have h' : (maskOf A l (if Region.binds .any e = true then s ||| (2 ^ e.on ||| A.getD e.on 0) else s)).testBit b = true := h
    rcases mask_bit A b l _ h' with h1 | ⟨e', h1, h2⟩
    · split at h1
      · next hb =>
        rw [Nat.testBit_or, Nat.testBit_or, Bool.or_eq_true, Bool.or_eq_true, Nat.testBit_two_pow] at h1
        rcases h1 with h1 | h1 | h1
        · exact .inl h1
        · exact .inr ⟨e, by simp, hb, .inl (by simpa [eq_comm] using h1)⟩
        · exact .inr ⟨e, by simp, hb, .inr h1⟩
      · exact .inl h1
    · exact .inr ⟨e', by simp [h1], h2⟩

def ancAt (C : Cert) (i : Nat) : Option Nat → Bool
  | some w => C.anc i w
  | none => false
def opOk (ops : Array Oper) (C : Cert) (m i : Nat) (o : Oper) (r : Role) : Bool :=
  o.after.toList.all (fun e => !Region.binds .any e || decide (e.on < i)) && decide (C.A.getD i 0 = maskOf C.A o.after.toList 0) &&
  match r with
  | .fn lo hi => decide (lo ≤ hi) && decide (hi ≤ m) && (match o.dst with
    | some d => decide (C.D.lookup d = some i)
    | none => false) && (List.range lo).all (fun k => ancAt C i C.ws[k]?) && (decide (m ≤ hi) || (match C.ws[hi]? with
      | some w => C.anc w i
      | none => false)) && (List.range C.roles.length).all (fun k => match C.roles[k]? with
        | some (.fn lo' _) => !C.anc i k || decide (lo' ≤ lo)
        | _ => true)
  | .wr k => decide (C.ws[k]? = some i) && decide (k < m)
def opsOk (ops : Array Oper) (C : Cert) (m : Nat) : Nat → List Oper → List Role → Bool
  | _, [], [] => true
  | i, o :: l, r :: rs => opOk ops C m i o r && opsOk ops C m (i + 1) l rs
  | _, _, _ => false
def wsOk (C : Cert) (m : Nat) : Bool := decide (C.ws.length = m) && (List.range m).all (fun k => (match C.ws[k]? with
    | some w => (match C.roles[w]? with
      | some (.wr k') => decide (k' = k)
      | _ => false)
    | none => false) && (match C.ws[k]?, C.ws[k + 1]? with
    | some w, some w' => C.anc w' w
    | _, _ => true))
def dOk (ops : Array Oper) (C : Cert) : Bool := C.D.all fun x => match ops[x.2]?, C.roles[x.2]? with
  | some o, some (.fn _ _) => decide (o.dst = some x.1)
  | _, _ => false
def freshL (C : Cert) (j : Nat) : List Nat := (List.range C.roles.length).filter fun i => match C.roles[i]? with
  | some (.fn lo _) => decide (lo = j)
  | _ => false
def againL (C : Cert) (j : Nat) : List Nat := (List.range C.roles.length).filter fun i => match C.roles[i]? with
  | some (.fn lo hi) => decide (lo < j) && decide (j ≤ hi)
  | _ => false
def planOk (C : Cert) (plan : List (List Nat × List Nat)) (m : Nat) : Bool := decide (plan = (List.range (m + 1)).map fun j => (freshL C j, againL C j))
def staticB (ops : Array Oper) (C : Cert) (plan : List (List Nat × List Nat)) : Bool :=
  opsOk ops C C.ws.length 0 ops.toList C.roles && wsOk C C.ws.length && dOk ops C && planOk C plan C.ws.length

theorem opsOk_len {ops : Array Oper} {C : Cert} {m : Nat} : ∀ (l : List Oper) (rs : List Role) (i : Nat), opsOk ops C m i l rs = true → l.length = rs.length
  | [], [], _, _ => rfl
  | o :: l, r :: rs, i, h => by simp only [opsOk, Bool.and_eq_true] at h; simp [opsOk_len l rs (i + 1) h.2]
  | [], r :: rs, _, h => by simp [opsOk] at h
  | o :: l, [], _, h => by simp [opsOk] at h
theorem opsOk_get {ops : Array Oper} {C : Cert} {m : Nat} : ∀ (l : List Oper) (rs : List Role) (i k : Nat) (o : Oper) (r : Role), opsOk ops C m i l rs = true → l[k]? = some o → rs[k]? = some r → opOk ops C m (i + k) o r = true
  | [], _, _, k, o, r, _, h, _ => by simp at h
  | o' :: l, [], _, _, _, _, h, _, _ => by simp [opsOk] at h
  | o' :: l, r' :: rs, i, 0, o, r, h, h1, h2 => by
    simp only [opsOk, Bool.and_eq_true] at h
    simp only [List.getElem?_cons_zero, Option.some.injEq] at h1 h2
    subst h1; subst h2
    exact h.1
  | o' :: l, r' :: rs, i, k + 1, o, r, h, h1, h2 => by
    simp only [opsOk, Bool.and_eq_true] at h
    have := opsOk_get l rs (i + 1) k o r h.2 (by simpa using h1) (by simpa using h2)
    rwa [show i + 1 + k = i + (k + 1) by omega] at this
theorem lookup_mem {β : Type} {s : Nat} {v : β} : ∀ {l : List (Nat × β)}, l.lookup s = some v → (s, v) ∈ l
  | [], h => by cases h
  | (t, u) :: l, h => by
    simp only [List.lookup] at h
    split at h
    · next he =>
      simp only [Option.some.injEq] at h
      have : s = t := by simpa using he
      subst this; subst h; simp
    · exact List.mem_cons_of_mem _ (lookup_mem h)

theorem static_ok {ops : Array Oper} {C : Cert} {plan : List (List Nat × List Nat)} (h : staticB ops C plan = true) : Static ops C C.ws.length ∧ plan.length = C.ws.length + 1 ∧ ∀ (q : Nat) pl, plan[q]? = some pl → PlanAt C q pl := by
  simp only [staticB, Bool.and_eq_true] at h
  obtain ⟨⟨⟨h1, h2⟩, h3⟩, h4⟩ := h
  have hlen : C.roles.length = ops.size := by have := opsOk_len _ _ _ h1; simpa using this.symm
  have hop : ∀ (i : Nat) (o : Oper) (r : Role), ops[i]? = some o → C.roles[i]? = some r → opOk ops C C.ws.length i o r = true := by
    intro i o r ho hr
    have := opsOk_get ops.toList C.roles 0 i o r h1 (by simpa using ho) hr
    rwa [Nat.zero_add] at this
  have hr : ∀ (i : Nat) (o : Oper), ops[i]? = some o → ∃ r, C.roles[i]? = some r := by
    intro i o ho
    exact ⟨_, List.getElem?_eq_getElem (by rw [hlen]; exact (Array.getElem?_eq_some_iff.1 ho).1)⟩
  simp only [wsOk, Bool.and_eq_true, decide_eq_true_eq, true_and] at h2
  rw [List.all_eq_true] at h2
  have hws : ∀ (k w : Nat), C.ws[k]? = some w → C.roles[w]? = some (.wr k) ∧ ∀ w', C.ws[k + 1]? = some w' → C.anc w' w = true := by
    intro k w hk
    have hlt := (List.getElem?_eq_some_iff.1 hk).1
    have := h2 k (List.mem_range.2 hlt)
    simp only [hk, Bool.and_eq_true] at this
    refine ⟨?_, ?_⟩
    · have q := this.1
      split at q
      · next k' hk' => rw [hk']; simp only [decide_eq_true_eq] at q; rw [q]
      · cases q
    · intro w' hw'
      have q := this.2
      rw [hw'] at q
      exact q
  refine ⟨⟨hlen, ?_, ?_, ?_, ?_, fun k w hk => (hws k w hk).1, fun k w w' hk hk' => (hws k w hk).2 w' hk', rfl, ?_, ?_⟩, ?_, ?_⟩
  · intro i o ho e he hb
    obtain ⟨r, hr⟩ := hr i o ho
    have := hop i o r ho hr
    simp only [opOk, Bool.and_eq_true] at this
    have := List.all_eq_true.1 this.1.1 e he
    simpa [hb] using this
  · intro i o b ho hb
    obtain ⟨r, hr⟩ := hr i o ho
    have := hop i o r ho hr
    simp only [opOk, Bool.and_eq_true, decide_eq_true_eq] at this
    have hm := this.1.2
    unfold Cert.anc at hb
    rw [hm] at hb
    rcases mask_bit C.A b _ _ hb with q | ⟨e, q1, q2, q3⟩
    · simp at q
    · exact ⟨e, q1, q2, q3⟩
  · intro i o lo hi ho hrole
    have := hop i o _ ho hrole
    simp only [opOk, Bool.and_eq_true, decide_eq_true_eq, Bool.or_eq_true] at this
    obtain ⟨_, ⟨⟨⟨⟨q1, q2⟩, q3⟩, q4⟩, q5⟩, _⟩ := this
    refine ⟨q1, q2, ?_, ?_, ?_⟩
    · split at q3
      · next d hd => exact ⟨d, hd, by simpa using q3⟩
      · cases q3
    · intro k hk
      have := List.all_eq_true.1 q4 k (List.mem_range.2 hk)
      unfold ancAt at this
      split at this
      · next w hw => exact ⟨w, hw, this⟩
      · cases this
    · intro hlt
      rcases q5 with q5 | q5
      · omega
      · split at q5
        · next w hw => exact ⟨w, hw, q5⟩
        · cases q5
  · intro i k hrole
    have hlt : i < ops.size := by rw [← hlen]; exact (List.getElem?_eq_some_iff.1 hrole).1
    have := hop i ops[i] _ (Array.getElem?_eq_getElem hlt) hrole
    simp only [opOk, Bool.and_eq_true, decide_eq_true_eq] at this
    exact this.2
  · intro i k lo hi lo' hi' hri hrk hanc
    have hlt : i < ops.size := by rw [← hlen]; exact (List.getElem?_eq_some_iff.1 hri).1
    have := hop i ops[i] _ (Array.getElem?_eq_getElem hlt) hri
    simp only [opOk, Bool.and_eq_true] at this
    obtain ⟨_, _, q6⟩ := this
    have := List.all_eq_true.1 q6 k (List.mem_range.2 (List.getElem?_eq_some_iff.1 hrk).1)
    simpa [hrk, hanc] using this
  · intro s g hg
    have := List.all_eq_true.1 h3 _ (lookup_mem hg)
    simp only at this
    split at this
    · next o lo hi ho hro => exact ⟨o, lo, hi, ho, hro, by simpa using this⟩
    · cases this
  · simp only [planOk, decide_eq_true_eq] at h4
    rw [h4]; simp
  · intro q pl hq
    simp only [planOk, decide_eq_true_eq] at h4
    rw [h4, List.getElem?_map] at hq
    cases hq' : (List.range (C.ws.length + 1))[q]? with
    | none => rw [hq'] at hq; cases hq
    | some q' =>
      have : q' = q := by
        have hlt := (List.getElem?_eq_some_iff.1 hq').1
        rw [List.getElem?_range (by simpa using hlt)] at hq'
        simpa using hq'.symm
      subst this
      rw [hq'] at hq
      simp only [Option.map_some, Option.some.injEq] at hq
      subst hq
      refine ⟨?_, ?_, ?_⟩
      · intro i
        simp only [freshL, List.mem_filter, List.mem_range]
        constructor
        · rintro ⟨_, h⟩
          split at h
          · next lo hi he => simp only [decide_eq_true_eq] at h; subst h; exact ⟨hi, he⟩
          · cases h
        · rintro ⟨hi, he⟩
          exact ⟨(List.getElem?_eq_some_iff.1 he).1, by rw [he]; simp⟩
      · exact List.Pairwise.filter _ List.pairwise_lt_range
      · intro i lo hi he h1 h2
        simp only [againL, List.mem_filter, List.mem_range]
        exact ⟨(List.getElem?_eq_some_iff.1 he).1, by rw [he]; simp [h1, h2]⟩

/-! ### tables -/
structure RC where
  keep : List Nat
  cert : Cert
  plan : List (List Nat × List Nat)
/-- In order; in any order with no writer. -/
abbrev RC.s (keep : List Nat) : RC := ⟨keep, ⟨[], [], [], []⟩, []⟩
def RC.d (keep A dsts : List Nat) : RC := ⟨keep, ⟨A, dsts.map fun _ => .fn 0 0, [], dsts.zipIdx⟩, [(List.range dsts.length, [])]⟩
def regOf (P : Program) (E : Env) (N : Nat) (tab : List (Nat × RC)) : Reg := fun id ops draw σ => match tab.lookup id with
  | some rc => if draw = true then match drawRun P E N ops rc.cert 0 rc.plan σ with
      | some σ' => some (St.pick rc.keep σ')
      | none => none
    else match seqL P E N ops ops.toList σ with
      | some σ' => some (St.pick rc.keep σ')
      | none => none
  | none => none
def tabT (tab : List (Nat × RC)) : Nat → Array Oper → Bool → Bool := fun id ops draw => !draw || match tab.lookup id with
  | some rc => staticB ops rc.cert rc.plan
  | none => true
theorem regOf_ok {P : Program} {E : Env} (hE : EnvOk P E) (hm : P.follows .mixedOrders = true) (N : Nat) (tab : List (Nat × RC)) : RegOk P N (regOf P E N tab) (tabT tab) := by
  intro w0 w id ops draw σ σ' tm ds Q hT hr hrel hq
  unfold regOf at hr
  unfold tabT at hT
  cases ht : tab.lookup id with
  | none => rw [ht] at hr; cases hr
  | some rc =>
    rw [ht] at hr hT
    simp only at hr hT
    cases draw with
    | true =>
      simp only [if_true, Bool.not_true, Bool.false_or] at hr hT
      split at hr
      · next σ1 h1 =>
        simp only [Option.some.injEq] at hr
        subst hr
        obtain ⟨a1, a2, a3⟩ := static_ok hT
        refine draw_region hE hm a1 a2 a3 hrel h1 ?_
        intro σF tm' w' hF hrel'
        have := hrel'.pick rc.keep
        rw [pick_congr hF] at this
        exact hq tm' w' this
      · cases hr
    | false =>
      simp only [Bool.false_eq_true, if_false] at hr
      split at hr
      · next σ1 h1 =>
        simp only [Option.some.injEq] at hr
        subst hr
        exact seq_region hE hrel h1 fun tm' w' h2 => hq tm' w' (h2.pick rc.keep)
      · cases hr

abbrev Tabs := List (Nat × List (Nat × RC))
def bodyAll (P : Program) (T : Nat → Array Oper → Bool → Bool) (f : FuncId) : Bool := match P.funcs[f]? with
  | some fn => match fn.body with
    | some c => codeAll T c
    | none => true
  | none => true
/-- All the drawn regions' shapes. -/
def tabsOk (P : Program) (tabs : Tabs) : Bool := P.follows .mixedOrders && tabs.all fun x => bodyAll P (tabT x.2) (x.1 % zeroN)
def fnRun (P : Program) (E : Env) (tabs : Tabs) (n : Nat) (f : FuncId) (as : List (SV Unit)) : Option (SV Unit) := match tabs.lookup f with
  | some t => funRun P (fun _ N => regOf P E N t) n f as
  | none => none
theorem tab_ok {P : Program} {tabs : Tabs} (ht : tabsOk P tabs = true) {g f : Nat} (hg : g % zeroN = f) {t : List (Nat × RC)} (hl : tabs.lookup g = some t) {fn : Func} {c : Code} (hf : P.funcs[f]? = some fn) (hc : fn.body = some c) : codeAll (tabT t) c = true := by
  simp only [tabsOk, Bool.and_eq_true] at ht
  have := List.all_eq_true.1 ht.2 _ (lookup_mem hl)
  simp only [hg, bodyAll, hf, hc] at this
  exact this
theorem fnRun_ok {P : Program} {E : Env} (hE : EnvOk P E) {tabs : Tabs} (ht : tabsOk P tabs = true) {n : Nat} {f : FuncId} {as : List (SV Unit)} {r : SV Unit} (hf : f < zeroN) (h : fnRun P E tabs n f as = some r) : Good P f as r := by
  have ht' := ht
  simp only [tabsOk, Bool.and_eq_true] at ht'
  unfold fnRun at h
  split at h
  · next t hl =>
    exact good_of_run (reg := fun _ N => regOf P E N t) (T := tabT t) (fun N => regOf_ok hE ht'.1 N t) (fun fn c hfn hc => tab_ok ht (Nat.mod_eq_of_lt hf) hl hfn hc) h
  · cases h
/-- A function that is lent its first argument stands in the tables under its number and zeroN. -/
def fnRunL (P : Program) (E : Env) (tabs : Tabs) (n : Nat) (f : FuncId) (y : Cell Unit) (as : List (SV Unit)) : Option (SV Unit) := match tabs.lookup (f + zeroN) with
  | some t => funRunL P (fun _ N => regOf P E N t) n f y as
  | none => none
theorem fnRunL_ok {P : Program} {E : Env} (hE : EnvOk P E) {tabs : Tabs} (ht : tabsOk P tabs = true) {n : Nat} {f : FuncId} {y : Cell Unit} {as : List (SV Unit)} {r : SV Unit} (hf : f < zeroN) (h : fnRunL P E tabs n f y as = some r) : GoodL P f y as r := by
  have ht' := ht
  simp only [tabsOk, Bool.and_eq_true] at ht'
  unfold fnRunL at h
  split at h
  · next t hl =>
    exact goodL_of_run (reg := fun _ N => regOf P E N t) (T := tabT t) (fun N => regOf_ok hE ht'.1 N t) (fun fn c hfn hc => tab_ok ht (by rw [Nat.add_mod_right, Nat.mod_eq_of_lt hf]) hl hfn hc) h
  · cases h
def fnRunE (P : Program) (E : Env) (tabs : Tabs) (n : Nat) (f : FuncId) (as : List (SV Unit)) : Option (SV Unit) := if f < zeroN then match lentOf as with
  | some (y, l) => fnRunL P E tabs n f y l
  | none => fnRun P E tabs n f as else none
theorem fnRunE_ok {P : Program} {E : Env} (hE : EnvOk P E) {tabs : Tabs} (ht : tabsOk P tabs = true) {n : Nat} {f : FuncId} {as : List (SV Unit)} {r : SV Unit} (h : fnRunE P E tabs n f as = some r) : GoodE P f as r := by
  unfold fnRunE at h
  split at h
  · next hf =>
    unfold GoodE
    split at h
    · next y l hl => rw [hl]; exact fnRunL_ok hE ht hf h
    · next hl => rw [hl]; exact fnRun_ok hE ht hf h
  · cases h
/-- What is known, then what can be run, to a depth. -/
def envN (P : Program) (tabs : Tabs) (ext : Env) (n : Nat) : Nat → Env
  | 0 => ext
  | k + 1 => fun f as => match ext f as with
    | some r => some r
    | none => fnRunE P (envN P tabs ext n k) tabs n f as
theorem envN_ok {P : Program} {tabs : Tabs} (ht : tabsOk P tabs = true) {ext : Env} (hx : EnvOk P ext) {n : Nat} : ∀ k, EnvOk P (envN P tabs ext n k)
  | 0 => hx
  | k + 1 => by
    intro f as r h
    simp only [envN] at h
    split at h
    · next r' h' => simp only [Option.some.injEq] at h; subst h; exact hx f as r' h'
    · exact fnRunE_ok (envN_ok ht hx k) ht h
end Go.Proofs.Ytnmocjhpbobahaa.L
namespace Go.Proofs.Ytnmocjhpbobahaa.L
open Go Go.RowKit

theorem run_mono {reg : Reg} : ∀ (n m : Nat) (c : Code) (σ : St Unit) (r : Ex × St Unit), run reg n c σ = some r → n ≤ m → run reg m c σ = some r := by
  intro n
  induction n with
  | zero => intro m c σ r h; simp [run] at h
  | succ n ih =>
    intro m c σ r h hm
    obtain ⟨k, rfl⟩ : ∃ k, m = k + 1 := ⟨m - 1, by omega⟩
    have IH := fun c σ r h => ih k c σ r h (by omega)
    cases c with
    | seq a b =>
      simp only [run] at h ⊢
      cases ha : run reg n a σ with
      | none => rw [ha] at h; cases h
      | some z =>
        obtain ⟨e, σ1⟩ := z
        rw [ha] at h
        rw [IH a σ _ ha]
        cases e with
        | normal => exact IH b σ1 r h
        | _ => exact h
    | cond x a b =>
      simp only [run] at h ⊢
      split at h
      · next v hv =>
        split at h
        · next t =>
          cases t with
          | true => exact IH a σ r h
          | false => exact IH b σ r h
        · cases h
      · cases h
    | block id a =>
      simp only [run] at h ⊢
      cases ha : run reg n a σ with
      | none => rw [ha] at h; cases h
      | some z => rw [ha] at h; rw [IH a σ _ ha]; exact h
    | loop a =>
      simp only [run] at h ⊢
      cases ha : run reg n a σ with
      | none => rw [ha] at h; cases h
      | some z =>
        obtain ⟨e, σ1⟩ := z
        rw [ha] at h
        rw [IH a σ _ ha]
        cases e with
        | normal => exact IH _ σ1 r h
        | _ => exact h
    | scope a =>
      simp only [run] at h ⊢
      cases ha : run reg n a σ with
      | none => rw [ha] at h; cases h
      | some z => rw [ha] at h; rw [IH a σ _ ha]; exact h
    | _ => exact h

/-- The code runs from σ, and Q holds behind it. -/
def RP (reg : Reg) (c : Code) (σ : St Unit) (Q : Ex → St Unit → Prop) : Prop := ∃ n e σ', run reg n c σ = some (e, σ') ∧ Q e σ'
section
variable {reg : Reg} {σ : St Unit} {Q : Ex → St Unit → Prop}
theorem rp_skip (h : Q .normal σ) : RP reg .skip σ Q := ⟨1, _, _, rfl, h⟩
theorem rp_label {l : Nat} (h : Q .normal σ) : RP reg (.label l) σ Q := ⟨1, _, _, rfl, h⟩
theorem rp_exit {i : Nat} (h : Q (.exit i) σ) : RP reg (.exit i) σ Q := ⟨1, _, _, rfl, h⟩
theorem rp_ret (h : Q .ret σ) : RP reg .ret σ Q := ⟨1, _, _, rfl, h⟩
theorem rp_region {id : Nat} {ops : Array Oper} {draw : Bool} {σ' : St Unit} (hr : reg id ops draw σ = some σ') (h : Q .normal σ') : RP reg (.region id ops draw) σ Q := ⟨1, _, _, by simp only [run, hr], h⟩
/-- What follows a part. -/
def thenR (reg : Reg) (b : Code) (Q : Ex → St Unit → Prop) : Ex → St Unit → Prop
  | .normal, σ => RP reg b σ Q
  | e, σ => Q e σ
theorem rp_seq {a b : Code} (h : RP reg a σ (thenR reg b Q)) : RP reg (.seq a b) σ Q := by
  obtain ⟨n, e, σ1, h1, h2⟩ := h
  cases e with
  | normal =>
    obtain ⟨m, e', σ2, h3, h4⟩ := h2
    refine ⟨n + m + 1, e', σ2, ?_, h4⟩
    simp only [run, run_mono n (n + m) a σ _ h1 (by omega)]
    exact run_mono m (n + m) b σ1 _ h3 (by omega)
  | exit i => exact ⟨n + 1, _, σ1, by simp only [run, h1], h2⟩
  | goto l => exact ⟨n + 1, _, σ1, by simp only [run, h1], h2⟩
  | ret => exact ⟨n + 1, _, σ1, by simp only [run, h1], h2⟩
theorem rp_cond {x : Operand} {a b : Code} {t : Bool} (hx : valOf σ x = some (.bool t)) (h : if t = true then RP reg a σ Q else RP reg b σ Q) : RP reg (.cond x a b) σ Q := by
  cases t with
  | true =>
    obtain ⟨n, e, σ1, h1, h2⟩ := h
    exact ⟨n + 1, e, σ1, by simp only [run, hx, if_true]; exact h1, h2⟩
  | false =>
    obtain ⟨n, e, σ1, h1, h2⟩ := h
    exact ⟨n + 1, e, σ1, by simp only [run, hx, Bool.false_eq_true, if_false]; exact h1, h2⟩
def inBlock (id : Nat) (Q : Ex → St Unit → Prop) : Ex → St Unit → Prop
  | .exit i, σ => if i = id then Q .normal σ else Q (.exit i) σ
  | e, σ => Q e σ
theorem rp_block {id : Nat} {a : Code} (h : RP reg a σ (inBlock id Q)) : RP reg (.block id a) σ Q := by
  obtain ⟨n, e, σ1, h1, h2⟩ := h
  cases e with
  | exit i =>
    simp only [inBlock] at h2
    by_cases hi : i = id
    · rw [if_pos hi] at h2; exact ⟨n + 1, _, σ1, by simp only [run, h1, if_pos hi], h2⟩
    · rw [if_neg hi] at h2; exact ⟨n + 1, _, σ1, by simp only [run, h1, if_neg hi], h2⟩
  | normal => exact ⟨n + 1, _, σ1, by simp only [run, h1], h2⟩
  | goto l => exact ⟨n + 1, _, σ1, by simp only [run, h1], h2⟩
  | ret => exact ⟨n + 1, _, σ1, by simp only [run, h1], h2⟩
def inScope (Q : Ex → St Unit → Prop) : Ex → St Unit → Prop
  | .goto _, _ => False
  | e, σ => Q e σ
theorem rp_scope {a : Code} (h : RP reg a σ (inScope Q)) : RP reg (.scope a) σ Q := by
  obtain ⟨n, e, σ1, h1, h2⟩ := h
  cases e with
  | goto l => exact h2.elim
  | normal => exact ⟨n + 1, _, σ1, by simp only [run, h1], h2⟩
  | exit i => exact ⟨n + 1, _, σ1, by simp only [run, h1], h2⟩
  | ret => exact ⟨n + 1, _, σ1, by simp only [run, h1], h2⟩
/-- A loop, by what holds at its head (with a measure). -/
def nextR (I : Nat → St Unit → Prop) (k : Nat) (Q : Ex → St Unit → Prop) : Ex → St Unit → Prop
  | .normal, σ => ∃ k', k' < k ∧ I k' σ
  | e, σ => Q e σ
theorem rp_loop {a : Code} (I : Nat → St Unit → Prop) (k : Nat) (h0 : I k σ) (h : ∀ k σ, I k σ → RP reg a σ (nextR I k Q)) : RP reg (.loop a) σ Q := by
  induction k using Nat.strongRecOn generalizing σ with
  | _ k ih =>
    obtain ⟨n, e, σ1, h1, h2⟩ := h k σ h0
    cases e with
    | normal =>
      obtain ⟨k', hk, h3⟩ := h2
      obtain ⟨m, e', σ2, h4, h5⟩ := ih k' hk h3
      refine ⟨n + m + 1, e', σ2, ?_, h5⟩
      simp only [run, run_mono n (n + m) a σ _ h1 (by omega)]
      exact run_mono m (n + m) _ σ1 _ h4 (by omega)
    | exit i => exact ⟨n + 1, _, σ1, by simp only [run, h1], h2⟩
    | goto l => exact ⟨n + 1, _, σ1, by simp only [run, h1], h2⟩
    | ret => exact ⟨n + 1, _, σ1, by simp only [run, h1], h2⟩
theorem RP.mono {c : Code} {Q' : Ex → St Unit → Prop} (h : RP reg c σ Q) (hq : ∀ e σ', Q e σ' → Q' e σ') : RP reg c σ Q' := by
  obtain ⟨n, e, σ1, h1, h2⟩ := h
  exact ⟨n, e, σ1, h1, hq e σ1 h2⟩
end

/-- Behind a body: its results read as r. -/
def endsAs (P : Program) (fn : Func) (r : SV Unit) : Ex → St Unit → Prop := fun e σ => (e = .normal ∨ e = .ret) ∧ ∃ xs d, resAll P σ pend0 fn.results.toList = some (xs, d) ∧ resSV xs = r
/-- A FUNCTION's CONTRACT BY ITS RUN. -/
theorem good_of {P : Program} {E : Env} (hE : EnvOk P E) {tabs : Tabs} (ht : tabsOk P tabs = true) {f : FuncId} {fn : Func} {c : Code} {t : List (Nat × RC)} {as : List (SV Unit)} {r : SV Unit} (hf : P.funcs[f]? = some fn) (hc : fn.body = some c) (htab : tabs.lookup f = some t)
    (hn : as.length ≤ fn.ntmps ∧ (fn.name == "runtime.NumGoroutine") = false) (hz : fn.ntmps < zeroN) (hfz : f < zeroN) (h : RP (regOf P E fn.ntmps t) c (argsSt 0 as) (endsAs P fn r)) : Good P f as r := by
  obtain ⟨n, e, σ', h1, h2, xs, d, h3, h4⟩ := h
  refine fnRun_ok hE ht (n := n) hfz ?_
  simp only [fnRun, htab, funRun, hf, hc, if_pos (And.intro (And.intro hn.1 hz) hn.2), h1, if_pos h2, h3, h4]
/-- Behind the body of a function that is lent its first argument. -/
def endsAsL (P : Program) (fn : Func) (y : Cell Unit) (R : SV Unit) : Ex → St Unit → Prop := fun e σ => (e = .normal ∨ e = .ret) ∧ ∃ xs d z, resAll P σ pend0 fn.results.toList = some (xs, d) ∧ backOf σ d y = some z ∧ lentSV z (resSV xs) = R
theorem goodL_of {P : Program} {E : Env} (hE : EnvOk P E) {tabs : Tabs} (ht : tabsOk P tabs = true) {f : FuncId} {fn : Func} {c : Code} {t : List (Nat × RC)} {y : Cell Unit} {as : List (SV Unit)} {R : SV Unit} (hf : P.funcs[f]? = some fn) (hc : fn.body = some c) (htab : tabs.lookup (f + zeroN) = some t)
    (hn : as.length < fn.ntmps ∧ (fn.name == "runtime.NumGoroutine") = false) (hz : fn.ntmps < zeroN) (hfz : f < zeroN) (h : RP (regOf P E (fn.ntmps + zeroN) t) c (argsSt 0 (one (.c y) :: as)) (endsAsL P fn y R)) : GoodL P f y as R := by
  obtain ⟨n, e, σ', h1, h2, xs, d, z, h3, h4, h5⟩ := h
  refine fnRunL_ok hE ht (n := n) hfz ?_
  simp only [fnRunL, htab, funRunL, hf, hc, if_pos (And.intro (And.intro hn.1 hz) hn.2), h1, if_pos h2, h3, h4, h5]
end Go.Proofs.Ytnmocjhpbobahaa.L
