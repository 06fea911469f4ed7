/- M26: what an operation's effect hangs on: its operands' slots, and those that they lead to. M27: the frame of each effect. M28: regions in whatever order: what one phase shows. M29: regions in whatever order. M30: regions in whatever order: the theorem; what a region leaves. MB: functions that are lent their first argument: the trees' answer is the function's. M31: regions by a table; functions by a table. M32: runs, by what is to hold behind them. -/
import Derived.Test.YtnmocjhpbobahaaQ4
import Derived.Orders
set_option linter.unusedVariables false
set_option linter.unusedSimpArgs false
set_option linter.unnecessarySimpa false
namespace Go.Proofs.Ytnmocjhpbobahaa.L
open Go Go.RowKit

section
variable {α : Type}
def SC.roots : SC α → List Nat
  | .view r _ => [r]
  | .win r _ _ _ _ => [r]
  | .ref r _ _ _ => [r]
  | .cut r _ _ => [r]
  | _ => []
def rootsL (l : List (SC α)) : List Nat := l.flatMap SC.roots
def rdSlot (σ : St α) (s : Nat) : List Nat := s :: rootsL (σ.get s).cs
def rdOp (σ : St α) : Operand → List Nat
  | .tmp s => rdSlot σ s
  | _ => []
def rdOps (σ : St α) (l : List Operand) : List Nat := l.flatMap (rdOp σ)
def Agree (K : List Nat) (σ σ' : St α) : Prop := ∀ s ∈ K, σ'.get s = σ.get s
theorem Agree.sub {K K' : List Nat} {σ σ' : St α} (h : Agree K σ σ') (hs : ∀ s ∈ K', s ∈ K) : Agree K' σ σ' := fun s hk => h s (hs s hk)
theorem Agree.slot {σ σ' : St α} {s : Nat} (h : Agree (rdSlot σ s) σ σ') : σ'.get s = σ.get s := h s (by simp [rdSlot])
theorem Agree.roots {σ σ' : St α} {s : Nat} (h : Agree (rdSlot σ s) σ σ') : Agree (rootsL (σ.get s).cs) σ σ' := h.sub fun r hr => by simp [rdSlot, hr]
theorem Agree.opOf {σ σ' : St α} {l : List Operand} (h : Agree (rdOps σ l) σ σ') {x : Operand} (hx : x ∈ l) : Agree (rdOp σ x) σ σ' :=
  h.sub fun r hr => List.mem_flatMap.2 ⟨x, hx, hr⟩
theorem Agree.one {σ σ' : St α} {s : Nat} (h : Agree (rdOp σ (.tmp s)) σ σ') : σ'.get s = σ.get s := h.slot

theorem opd_fr (P : Program) (Ω : Orc α) {σ σ' : St α} (t : TypeId) {x : Operand} (h : Agree (rdOp σ x) σ σ') : opd P Ω σ' t x = opd P Ω σ t x := by
  cases x with
  | tmp s => simp only [opd, h.one]
  | _ => rfl
theorem valOf_fr {σ σ' : St α} {x : Operand} (h : Agree (rdOp σ x) σ σ') : valOf σ' x = valOf σ x := by
  cases x with
  | tmp s => simp only [valOf, h.one]
  | _ => rfl
theorem intOf_fr {σ σ' : St α} {x : Operand} (h : Agree (rdOp σ x) σ σ') : intOf? σ' x = intOf? σ x := by unfold intOf?; rw [valOf_fr h]
theorem natOf_fr {σ σ' : St α} {x : Operand} (h : Agree (rdOp σ x) σ σ') : natOf? σ' x = natOf? σ x := by unfold natOf?; rw [intOf_fr h]
theorem bound_fr {σ σ' : St α} {n : Nat} {x : Option Operand} (h : ∀ y, x = some y → Agree (rdOp σ y) σ σ') : bound σ' n x = bound σ n x := by
  cases x with
  | none => rfl
  | some y => exact natOf_fr (h y rfl)
theorem ovGet_fr {σ σ' : St α} {r : Nat} (h : σ'.get r = σ.get r) (ch : List (Nat × SV α)) : ovGet σ' ch r = ovGet σ ch r := by unfold ovGet; rw [h]
theorem takeAt_fr {σ σ' : St α} {r : Nat} (h : σ'.get r = σ.get r) (d : Pend α) (p : List Nat) : takeAt σ' d r p = takeAt σ d r p := by unfold takeAt; rw [ovGet_fr h]
theorem place_slot {x : SC α} {s i r : Nat} {p : List Nat} (h : x.place s i = some (r, p)) : r = s ∨ r ∈ x.roots := by
  cases x with
  | c y => simp only [SC.place] at h; split at h <;> simp_all
  | view r' p' => simp only [SC.place, Option.some.injEq, Prod.mk.injEq] at h; obtain ⟨rfl, rfl⟩ := h; right; simp [SC.roots]
  | _ => simp [SC.place] at h
theorem takeSC_fr {σ σ' : St α} {s i : Nat} {x : SC α} {d : Pend α} (hs : σ'.get s = σ.get s) (h : Agree x.roots σ σ') : takeSC σ' d s i x = takeSC σ d s i x := by
  unfold takeSC
  cases hp : x.place s i with
  | none => rfl
  | some z =>
    obtain ⟨r, p⟩ := z
    simp only
    rcases place_slot hp with rfl | hr
    · rw [takeAt_fr hs]
    · rw [takeAt_fr (h r hr)]
theorem takeAll_fr {σ σ' : St α} {s : Nat} (hs : σ'.get s = σ.get s) : ∀ (l : List (SC α)) (d : Pend α) (i : Nat), Agree (rootsL l) σ σ' → takeAll σ' s d i l = takeAll σ s d i l
  | [], d, i, _ => rfl
  | x :: l, d, i, h => by
    simp only [takeAll]
    rw [takeSC_fr hs (h.sub fun r hr => by simp [rootsL, hr])]
    cases takeSC σ d s i x with
    | none => rfl
    | some z => simp only; rw [takeAll_fr hs l _ _ (h.sub fun r hr => by simp only [rootsL, List.flatMap_cons, List.mem_append]; exact .inr hr)]
theorem takeFrom_fr {σ σ' : St α} {x : Operand} {d : Pend α} {cs : List (SC α)} (h : Agree (rdOp σ x) σ σ') (hc : ∀ s, x = .tmp s → cs = (σ.get s).cs) : takeFrom σ' (slotOf x) d cs = takeFrom σ (slotOf x) d cs := by
  cases x with
  | tmp s => simp only [slotOf, takeFrom]; rw [takeAll_fr h.slot _ _ _ (by rw [hc s rfl]; exact h.roots)]
  | _ => rfl
theorem adOf_fr {σ σ' : St α} {x : Operand} (h : Agree (rdOp σ x) σ σ') : adOf σ' x = adOf σ x := by
  cases x with
  | tmp s =>
    have hr := h.roots
    simp only [adOf, h.one]
    split
    · split <;> first | rfl | skip
      next r p hcs =>
        rw [hr r (by rw [hcs]; simp [rootsL, SC.roots])]
    · rfl
  | _ => rfl
theorem sdOf_fr {σ σ' : St α} {x : Operand} (h : Agree (rdOp σ x) σ σ') : sdOf σ' x = sdOf σ x := by
  cases x with
  | tmp s =>
    have hr := h.roots
    simp only [sdOf, h.one]
    split
    · split <;> first | rfl | skip
      · next r p hcs => rw [hr r (by rw [hcs]; simp [rootsL, SC.roots])]
      · next r p lo n f hcs => rw [hr r (by rw [hcs]; simp [rootsL, SC.roots])]
    · rfl
  | _ => rfl
theorem adOf_root {σ : St α} {x : Operand} {r off : Nat} {p : List Nat} (h : adOf σ x = some (.own r p off)) : r ∈ rdOp σ x := by
  cases x with
  | tmp s =>
    simp only [adOf] at h
    split at h
    · split at h
      · next hcs => simp only [Option.some.injEq, Ad.own.injEq] at h; obtain ⟨rfl, _⟩ := h; simp [rdOp, rdSlot]
      · simp at h
      · next r' p' hcs =>
        split at h
        · simp only [Option.some.injEq, Ad.own.injEq] at h; obtain ⟨rfl, _⟩ := h; simp [rdOp, rdSlot, hcs, rootsL, SC.roots]
        · cases h
      · next r' p' off' hcs => simp only [Option.some.injEq, Ad.own.injEq] at h; obtain ⟨rfl, _⟩ := h; simp [rdOp, rdSlot, hcs, rootsL, SC.roots]
      · simp at h
      · cases h
    · cases h
  | _ => simp [adOf] at h
theorem sdOf_root {σ : St α} {x : Operand} {r sz lo n : Nat} {p : List Nat} {a b : Bool} {row : List (Cell α)} (h : sdOf σ x = some (.own r p sz lo n a b row)) : r ∈ rdOp σ x := by
  cases x with
  | tmp s =>
    simp only [sdOf] at h
    split at h
    · split at h
      · next hcs => simp only [Option.some.injEq, SD.own.injEq] at h; obtain ⟨rfl, _⟩ := h; simp [rdOp, rdSlot]
      · simp at h
      · next r' p' hcs =>
        split at h
        · simp only [Option.some.injEq, SD.own.injEq] at h; obtain ⟨rfl, _⟩ := h; simp [rdOp, rdSlot, hcs, rootsL, SC.roots]
        · cases h
      · next r' p' lo' n' f' hcs =>
        split at h
        · split at h
          · simp only [Option.some.injEq, SD.own.injEq] at h; obtain ⟨rfl, _⟩ := h; simp [rdOp, rdSlot, hcs, rootsL, SC.roots]
          · cases h
        · cases h
      · cases h
    · cases h
  | _ => simp [sdOf] at h
theorem rowAtP_fr {σ σ' : St α} {r : Nat} (h : σ'.get r = σ.get r) (p : List Nat) : rowAtP σ' r p = rowAtP σ r p := by unfold rowAtP; rw [h]
theorem argSC0_fr {σ σ' : St α} {x : SC α} (h : Agree x.roots σ σ') : argSC0 σ' x = argSC0 σ x := by
  cases x with
  | view r p => simp only [argSC0, h r (by simp [SC.roots])]
  | win r p lo n f => simp only [argSC0, h r (by simp [SC.roots])]
  | ref r p off m =>
    cases m with
    | none => rfl
    | some z => simp only [argSC0, h r (by simp [SC.roots])]
  | _ => rfl
theorem cutRow_fr {σ σ' : St α} {r : Nat} (h : σ'.get r = σ.get r) : ∀ (ws : List (Nat × Part × Cell α)) (row : List (Cell Unit)), cutRow σ' r row ws = cutRow σ r row ws
  | [], _ => rfl
  | e :: ws, row => by
    simp only [cutRow]
    have hq : ∀ q : Part, Agree (q.sc r : SC α).roots σ σ' := by
      intro q s hs
      cases q <;> (simp only [Part.sc, SC.roots, List.mem_singleton] at hs; subst hs; exact h)
    rw [argSC0_fr (hq e.2.1)]
    cases argSC0 σ (e.2.1.sc r) with
    | none => rfl
    | some x => cases x with
      | c c => exact cutRow_fr h ws _
      | _ => rfl
theorem argSC_fr {σ σ' : St α} {x : SC α} (h : Agree x.roots σ σ') : argSC σ' x = argSC σ x := by
  cases x with
  | cut r x ws =>
    cases x with
    | sl o sz a row => cases o with
      | true => simp only [argSC, cutRow_fr (h r (by simp [SC.roots]))]
      | false => rfl
    | _ => rfl
  | c y => rfl
  | view r p => exact argSC0_fr (x := .view r p) h
  | win r p lo n f => exact argSC0_fr (x := .win r p lo n f) h
  | ref r p o m => exact argSC0_fr (x := .ref r p o m) h
  | fref a row o => rfl
  | dead => rfl
theorem argSCs_fr {σ σ' : St α} : ∀ (l : List (SC α)), Agree (rootsL l) σ σ' → argSCs σ' l = argSCs σ l
  | [], _ => rfl
  | x :: l, h => by
    simp only [argSCs]
    rw [argSC_fr (h.sub fun r hr => by simp [rootsL, hr]), argSCs_fr l (h.sub fun r hr => by simp only [rootsL, List.flatMap_cons, List.mem_append]; exact .inr hr)]
theorem constSV_roots (P : Program) (nil : α) (t : TypeId) (v : Value) (sv : SV α) (h : constSV P nil t v = some sv) : rootsL sv.cs = [] := by
  have key : ∀ l : List (Cell α), rootsL (l.map SC.c) = [] := by
    intro l
    induction l with
    | nil => rfl
    | cons c l ih => simpa [rootsL, SC.roots] using ih
  unfold constSV at h
  split at h
  · split at h
    · next l _ => simp only [Option.some.injEq] at h; subst h; exact key l
    · cases h
  · split at h
    · next c _ => simp only [Option.some.injEq] at h; subst h; exact key [c]
    · cases h
theorem opd_roots {P : Program} {Ω : Orc α} {σ : St α} {t : TypeId} {x : Operand} {v : SV α} (h : opd P Ω σ t x = some v) : ∀ r ∈ rootsL v.cs, r ∈ rdOp σ x := by
  cases x with
  | tmp s => simp only [opd, Option.some.injEq] at h; subst h; intro r hr; simp [rdOp, rdSlot, hr]
  | const u => intro r hr; rw [constSV_roots P _ t u v h] at hr; cases hr
  | _ => simp [opd] at h
theorem opd_tmp {P : Program} {Ω : Orc α} {σ : St α} {t : TypeId} {x : Operand} {v : SV α} (h : opd P Ω σ t x = some v) : ∀ s, x = .tmp s → v.cs = (σ.get s).cs := by
  intro s hs
  subst hs
  simp only [opd, Option.some.injEq] at h
  rw [h]
theorem argOf_fr {P : Program} {Ω : Orc α} {σ σ' : St α} {t : TypeId} {x : Operand} (h : Agree (rdOp σ x) σ σ') : argOf P Ω σ' t x = argOf P Ω σ t x := by
  unfold argOf
  rw [opd_fr P Ω t h]
  cases hv : opd P Ω σ t x with
  | none => rfl
  | some v => simp only; rw [argSCs_fr v.cs (h.sub (opd_roots hv))]
theorem argsOf_fr {P : Program} {Ω : Orc α} {σ σ' : St α} : ∀ (l : List Operand) (ts : List TypeId), Agree (rdOps σ l) σ σ' → argsOf P Ω σ' ts l = argsOf P Ω σ ts l
  | [], ts, _ => rfl
  | x :: l, ts, h => by
    simp only [argsOf]
    rw [argOf_fr (h.opOf (by simp)), argsOf_fr l ts.tail (h.sub fun r hr => by simp only [rdOps, List.flatMap_cons, List.mem_append]; exact .inr hr)]
theorem partsOf_fr {P : Program} {Ω : Orc α} {σ σ' : St α} {ty : Nat → TypeId} : ∀ (l : List (Nat × Operand)), Agree (rdOps σ (l.map (·.2))) σ σ' → partsOf P Ω σ' ty l = partsOf P Ω σ ty l
  | [], _ => rfl
  | (i, x) :: l, h => by
    simp only [partsOf]
    rw [opd_fr P Ω _ (h.opOf (by simp)), partsOf_fr l (h.sub fun r hr => by simp only [rdOps, List.map_cons, List.flatMap_cons, List.mem_append]; exact .inr hr)]
theorem partsOf_roots {P : Program} {Ω : Orc α} {σ : St α} {ty : Nat → TypeId} : ∀ (l : List (Nat × Operand)) (ps : List (Nat × Option Nat × List (SC α))), partsOf P Ω σ ty l = some ps → ∀ x ∈ ps, ∀ r ∈ rootsL x.2.2, r ∈ rdOps σ (l.map (·.2))
  | [], ps, hp, x, hx, _, _ => by simp only [partsOf, Option.some.injEq] at hp; subst hp; cases hx
  | (i, y) :: l, ps, hp, x, hx, r, hr => by
    simp only [partsOf] at hp
    split at hp
    · next v ps' hv hps =>
      split at hp
      · simp only [Option.some.injEq] at hp
        subst hp
        simp only [rdOps, List.map_cons, List.flatMap_cons, List.mem_append]
        rcases List.mem_cons.1 hx with rfl | hx
        · exact .inl (opd_roots hv r hr)
        · exact .inr (partsOf_roots l ps' hps x hx r hr)
      · cases hp
    · cases hp
theorem cutOf_roots {x : Nat × Option Nat × List (SC α)} {r : Nat} {q : Part} (h : cutOf x = some (r, q)) : r ∈ rootsL x.2.2 := by
  obtain ⟨i, s, cs⟩ := x
  match cs, h with
  | [y], h =>
    cases y with
    | win r p lo n f => simp only [cutOf, Option.some.injEq, Prod.mk.injEq] at h; obtain ⟨rfl, rfl⟩ := h; simp [rootsL, SC.roots]
    | ref r p o m =>
      cases m with
      | none => simp [cutOf] at h
      | some z => simp only [cutOf, Option.some.injEq, Prod.mk.injEq] at h; obtain ⟨rfl, rfl⟩ := h; simp [rootsL, SC.roots]
    | _ => simp [cutOf] at h
  | [], h => simp [cutOf] at h
  | y :: z :: l, h => cases y <;> simp [cutOf] at h
theorem cutWs_fr {σ σ' : St α} {r : Nat} : ∀ (ps : List (Nat × Option Nat × List (SC α))), (∀ x ∈ ps, ∀ r ∈ rootsL x.2.2, σ'.get r = σ.get r) → cutWs σ' r ps = cutWs σ r ps
  | [], _ => rfl
  | x :: l, h => by
    simp only [cutWs]
    rw [cutWs_fr l fun y hy => h y (by simp [hy])]
    cases hc : cutOf x with
    | none => rfl
    | some rq =>
      obtain ⟨r', q⟩ := rq
      simp only
      split
      · next e =>
        subst e
        have hg := h x (by simp) r' (cutOf_roots hc)
        have e2 : hdLen σ' r' q = hdLen σ r' q := by cases q <;> simp only [hdLen, hg]
        rw [e2]
      · rfl
theorem takeCut_fr {P : Program} {Ω : Orc α} {σ σ' : St α} {ty : Nat → TypeId} : ∀ (l : List (Nat × Operand)) (ps : List (Nat × Option Nat × List (SC α))) (d : Pend α), Agree (rdOps σ (l.map (·.2))) σ σ' → partsOf P Ω σ ty l = some ps → takeParts σ' d (ps.map stripCut) = takeParts σ d (ps.map stripCut)
  | [], ps, d, _, hp => by simp only [partsOf, Option.some.injEq] at hp; subst hp; rfl
  | (i, x) :: l, ps, d, h, hp => by
    simp only [partsOf] at hp
    split at hp
    · next v ps' hv hps =>
      split at hp
      · simp only [Option.some.injEq] at hp
        subst hp
        have ih := fun d => takeCut_fr l ps' d (h.sub fun r hr => by simp only [rdOps, List.map_cons, List.flatMap_cons, List.mem_append]; exact .inr hr) hps
        simp only [List.map_cons, stripCut]
        cases hc : cutOf (i, slotOf x, v.cs) with
        | none =>
          simp only [takeParts]
          rw [takeFrom_fr (h.opOf (by simp)) (opd_tmp hv)]
          cases takeFrom σ (slotOf x) d v.cs with
          | none => rfl
          | some z => simp only; rw [ih]
        | some rq =>
          simp only [takeParts, takeFrom]
          rw [ih]
      · cases hp
    · cases hp
theorem takeParts_fr {P : Program} {Ω : Orc α} {σ σ' : St α} {ty : Nat → TypeId} : ∀ (l : List (Nat × Operand)) (ps : List (Nat × Option Nat × List (SC α))) (d : Pend α), Agree (rdOps σ (l.map (·.2))) σ σ' → partsOf P Ω σ ty l = some ps → takeParts σ' d ps = takeParts σ d ps
  | [], ps, d, _, hp => by simp only [partsOf, Option.some.injEq] at hp; subst hp; rfl
  | (i, x) :: l, ps, d, h, hp => by
    simp only [partsOf] at hp
    split at hp
    · next v ps' hv hps =>
      split at hp
      · simp only [Option.some.injEq] at hp
        subst hp
        simp only [takeParts]
        rw [takeFrom_fr (h.opOf (by simp)) (opd_tmp hv)]
        cases takeFrom σ (slotOf x) d v.cs with
        | none => rfl
        | some z =>
          simp only
          rw [takeParts_fr l ps' _ (h.sub fun r hr => by simp only [rdOps, List.map_cons, List.flatMap_cons, List.mem_append]; exact .inr hr) hps]
      · cases hp
    · cases hp
theorem topSC_fr {σ σ' : St α} {s t i : Nat} {x : SC α} {d : Pend α} (hs : σ'.get s = σ.get s) (h : Agree x.roots σ σ') : topSC σ' s t d i x = topSC σ s t d i x := by
  cases x with
  | c y => simp only [topSC]; rw [takeAt_fr hs]
  | view r p => simp only [topSC]; rw [takeAt_fr (h r (by simp [SC.roots]))]
  | _ => rfl
theorem takeTop_fr {σ σ' : St α} {s t : Nat} (hs : σ'.get s = σ.get s) : ∀ (l : List (SC α)) (d : Pend α) (i : Nat), Agree (rootsL l) σ σ' → takeTop σ' s t d i l = takeTop σ s t d i l
  | [], d, i, _ => rfl
  | x :: l, d, i, h => by
    simp only [takeTop]
    rw [topSC_fr hs (h.sub fun r hr => by simp [rootsL, hr])]
    cases topSC σ s t d i x with
    | none => rfl
    | some z => simp only; rw [takeTop_fr hs l _ _ (h.sub fun r hr => by simp only [rootsL, List.flatMap_cons, List.mem_append]; exact .inr hr)]
theorem newsOf_fr {σ σ' : St α} {sz : Nat} {x : Operand} (h : Agree (rdOp σ x) σ σ') : newsOf σ' sz x = newsOf σ sz x := by
  unfold newsOf
  rw [sdOf_fr h]
  cases x with
  | tmp s => simp only [h.one]; rw [takeAt_fr h.one]
  | _ => rfl
end
end Go.Proofs.Ytnmocjhpbobahaa.L
namespace Go.Proofs.Ytnmocjhpbobahaa.L
open Go Go.RowKit

section
variable {α : Type}
theorem Agree.cons {σ σ' : St α} {x : Operand} {l : List Operand} (h : Agree (rdOps σ (x :: l)) σ σ') : Agree (rdOp σ x) σ σ' ∧ Agree (rdOps σ l) σ σ' :=
  ⟨h.opOf (by simp), h.sub fun r hr => by simp only [rdOps, List.flatMap_cons, List.mem_append]; exact .inr hr⟩
theorem effPure_fr {P : Program} {σ σ' : St α} {t : Nat} {o : Oper} (h : Agree (rdOps σ o.op.operands.toList) σ σ') : effPure P σ' t o = effPure P σ t o := by
  unfold effPure
  have hv : ∀ x ∈ o.op.operands, valOf σ' x = valOf σ x := fun x hx => valOf_fr (h.opOf (Array.mem_toList_iff.2 hx))
  have ha : o.op.operands.toList.all (fun x => (valOf σ' x).isSome) = o.op.operands.toList.all (fun x => (valOf σ x).isSome) := by
    rw [Bool.eq_iff_iff, List.all_eq_true, List.all_eq_true]
    exact ⟨fun q x hx => by rw [← hv x (Array.mem_toList_iff.1 hx)]; exact q x hx, fun q x hx => by rw [hv x (Array.mem_toList_iff.1 hx)]; exact q x hx⟩
  rw [ha]
  by_cases hp : pureOp o.op = true
  · have hs : ∀ cs b, o.op ≠ .select cs b := by
      intro cs b he
      rw [he] at hp; simp [pureOp] at hp
    rw [execOp_congr (ρ := fun x => (valOf σ' x).getD undef) (ρ' := fun x => (valOf σ x).getD undef) o hs (fun x hx => by simp only [hv x hx])]
  · simp only [Bool.not_eq_true] at hp
    simp [hp]
theorem effMove_fr {P : Program} {Ω : Orc α} {σ σ' : St α} {t ty : Nat} {x : Operand} (h : Agree (rdOp σ x) σ σ') : effMove P Ω σ' t ty x = effMove P Ω σ t ty x := by
  unfold effMove; rw [opd_fr P Ω ty h]
theorem scTop_root {x : SC α} {r : Nat} : (scTop x = .view r → r ∈ x.roots) ∧ (∀ lo n, scTop x = .win r lo n → r ∈ x.roots) := by
  cases x with
  | view r' p =>
    simp only [scTop, SC.roots]
    split <;> simp_all
  | win r' p lo n f =>
    simp only [scTop, SC.roots]
    split <;> simp_all
  | _ => simp [scTop]
theorem top_root {v : SV α} {r : Nat} : (v.top = .view r → r ∈ rootsL v.cs) ∧ (∀ lo n, v.top = .win r lo n → r ∈ rootsL v.cs) := by
  obtain ⟨k, cs⟩ := v
  unfold SV.top
  simp only
  split
  · split
    · next x =>
      have := @scTop_root α x r
      simpa [rootsL] using this
    · simp
  · simp
theorem effAssign_fr {P : Program} {Ω : Orc α} {σ σ' : St α} {t ty : Nat} {x : Operand} (h : Agree (rdOp σ x) σ σ') : effAssign P Ω σ' t ty x = effAssign P Ω σ t ty x := by
  unfold effAssign
  cases x with
  | tmp s =>
    have hs := h.one
    have hr := h.roots
    simp only [hs]
    split
    · rfl
    · split
      · next r htop =>
        have hg := hr r (top_root.1 htop)
        simp only [hg, takeAt_fr hg]
      · next r lo n htop =>
        have hg := hr r (top_root.2 lo n htop)
        simp only [hg, takeAt_fr hg]
      · rw [takeTop_fr hs _ _ _ hr]
  | _ => rfl
theorem effBox_fr {P : Program} {Ω : Orc α} {σ σ' : St α} {t e : Nat} {x : Operand} (h : Agree (rdOp σ x) σ σ') : effBox P Ω σ' t e x = effBox P Ω σ t e x := by
  unfold effBox
  rw [opd_fr P Ω e h]
  cases hv : opd P Ω σ e x with
  | none => rfl
  | some v => simp only; rw [takeFrom_fr h (opd_tmp hv)]
theorem effBuild_fr {P : Program} {Ω : Orc α} {σ σ' : St α} {t ty : Nat} {l : List (Nat × Operand)} (h : Agree (rdOps σ (l.map (·.2))) σ σ') : effBuild P Ω σ' t ty l = effBuild P Ω σ t ty l := by
  unfold effBuild; rw [partsOf_fr l h]
theorem effBuildSlice_fr {P : Program} {Ω : Orc α} {σ σ' : St α} {t ty n : Nat} {l : List (Nat × Operand)} (h : Agree (rdOps σ (l.map (·.2))) σ σ') : effBuildSlice P Ω σ' t ty n l = effBuildSlice P Ω σ t ty n l := by
  unfold effBuildSlice
  rw [partsOf_fr l h]
  split
  · split
    · split
      · next z ps hz hps =>
        rw [takeParts_fr l ps _ h hps]
      · rfl
    · rfl
  · rfl
theorem effCut_fr {P : Program} {Ω : Orc α} {σ σ' : St α} {t ty n : Nat} {l : List (Nat × Operand)} (h : Agree (rdOps σ (l.map (·.2))) σ σ') : effCut P Ω σ' t ty n l = effCut P Ω σ t ty n l := by
  unfold effCut
  rw [partsOf_fr l h]
  split
  · split
    · split
      · next z ps hz hps =>
        split
        · next r hr =>
          rw [cutWs_fr ps (fun x hx r hr => h r (partsOf_roots l ps hps x hx r hr)), takeCut_fr l ps _ h hps]
        · rfl
      · rfl
    · rfl
  · rfl
theorem effMake_fr {P : Program} {Ω : Orc α} {σ σ' : St α} {t ty : Nat} {x y : Operand} (h : Agree (rdOp σ x) σ σ') (h' : Agree (rdOp σ y) σ σ') : effMake P Ω σ' t ty x y = effMake P Ω σ t ty x y := by
  unfold effMake; rw [natOf_fr h, natOf_fr h']
theorem effLoad_fr {P : Program} {σ σ' : St α} {t ty : Nat} {x : Operand} (h : Agree (rdOp σ x) σ σ') : effLoad P σ' t ty x = effLoad P σ t ty x := by
  unfold effLoad
  rw [adOf_fr h]
  split
  · next r p off had => rw [rowAtP_fr (h r (adOf_root had))]
  · rfl
  · rfl
theorem effStore_fr {P : Program} {Ω : Orc α} {σ σ' : St α} {ty : Nat} {x y : Operand} (h : Agree (rdOp σ x) σ σ') (h' : Agree (rdOp σ y) σ σ') : effStore P Ω σ' ty x y = effStore P Ω σ ty x y := by
  unfold effStore
  rw [adOf_fr h, opd_fr P Ω ty h']
  split
  · next r p off v had hv =>
    rw [takeFrom_fr h' (opd_tmp hv)]
    have hg := h r (adOf_root had)
    cases takeFrom σ (slotOf y) pend0 v.cs with
    | none => rfl
    | some z => simp only [ovGet_fr hg]
  · rfl
theorem effFieldAddr_fr {P : Program} {σ σ' : St α} {t ty f : Nat} {x : Operand} (h : Agree (rdOp σ x) σ σ') : effFieldAddr P σ' t ty x f = effFieldAddr P σ t ty x f := by
  unfold effFieldAddr; rw [adOf_fr h]
theorem effIndexAddr_fr {P : Program} {σ σ' : St α} {t ty : Nat} {x y : Operand} (h : Agree (rdOp σ x) σ σ') (h' : Agree (rdOp σ y) σ σ') : effIndexAddr P σ' t ty x y = effIndexAddr P σ t ty x y := by
  unfold effIndexAddr; rw [adOf_fr h, sdOf_fr h, intOf_fr h']
theorem effSlice_fr {P : Program} {Ω : Orc α} {σ σ' : St α} {t ty : Nat} {x : Operand} {lo hi mx : Option Operand} (h : Agree (rdOp σ x) σ σ') (h1 : ∀ y, lo = some y → Agree (rdOp σ y) σ σ') (h2 : ∀ y, hi = some y → Agree (rdOp σ y) σ σ') (h3 : ∀ y, mx = some y → Agree (rdOp σ y) σ σ') :
    effSlice P Ω σ' t ty x lo hi mx = effSlice P Ω σ t ty x lo hi mx := by
  unfold effSlice
  rw [sdOf_fr h]
  simp only [bound_fr h1, bound_fr h2, bound_fr h3]
theorem effSliceArr_fr {P : Program} {σ σ' : St α} {t ty : Nat} {x : Operand} {lo hi mx : Option Operand} (h : Agree (rdOp σ x) σ σ') : effSliceArr P σ' t ty x lo hi mx = effSliceArr P σ t ty x lo hi mx := by
  unfold effSliceArr; rw [adOf_fr h]
theorem effNilCmp_fr {P : Program} {σ σ' : St α} {t ty : Nat} {op : BinOp} {x y : Operand} (h : Agree (rdOp σ x) σ σ') : effNilCmp P σ' t op ty x y = effNilCmp P σ t op ty x y := by
  unfold effNilCmp; rw [sdOf_fr h]
theorem effSliceNil_fr {P : Program} {Ω : Orc α} {σ σ' : St α} {t ty : Nat} {o : Oper} (h : ∀ x, x ∈ o.op.operands → valOf σ' x = valOf σ x) : effSliceNil P Ω σ' t ty o = effSliceNil P Ω σ t ty o := by
  unfold effSliceNil
  have e1 : (o.op.operands.toList.all fun x => (valOf σ' x).isSome) = o.op.operands.toList.all fun x => (valOf σ x).isSome := by
    rw [Bool.eq_iff_iff, List.all_eq_true, List.all_eq_true]
    constructor
    · intro k x hx; rw [← h x (Array.mem_toList_iff.1 hx)]; exact k x hx
    · intro k x hx; rw [h x (Array.mem_toList_iff.1 hx)]; exact k x hx
  rw [e1]
  split
  · split
    · next hc =>
      obtain ⟨_, hc⟩ := hc
      simp only [Bool.and_eq_true] at hc
      have e2 : execOp (fun x => (valOf σ' x).getD undef) o = execOp (fun x => (valOf σ x).getD undef) o := execOp_congr o (fun cs b => pureOp_select hc.1 cs b) (fun x hx => by rw [h x (by simpa using hx)])
      rw [e2]
    · rfl
  · rfl
theorem effLen_fr {P : Program} {σ σ' : St α} {t : Nat} {args : List Operand} {tys : List TypeId} (h : Agree (rdOps σ args) σ σ') : effLen P σ' t args tys = effLen P σ t args tys := by
  unfold effLen
  split
  · rw [sdOf_fr h.cons.1]
  · rfl
theorem effAppend_fr {P : Program} {Ω : Orc α} {σ σ' : St α} {t : Nat} {args : List Operand} {tys : List TypeId} (h : Agree (rdOps σ args) σ σ') : effAppend P Ω σ' t args tys = effAppend P Ω σ t args tys := by
  unfold effAppend
  split
  · next x y tx ty =>
    have hx := h.cons.1
    have hy := h.cons.2.cons.1
    rw [sdOf_fr hx]
    split
    · next e e' d _ _ hd =>
      split
      · rw [newsOf_fr hy]
        cases newsOf σ d.sz y with
        | none => rfl
        | some z =>
          simp only
          split
          · split
            · next r p sz lo n f row _ _ =>
              rw [takeAt_fr (hx r (sdOf_root hd))]
            · rfl
            · rfl
          · rfl
      · rfl
    · rfl
  · rfl
theorem effCopy_fr {P : Program} {σ σ' : St α} {t : Nat} {args : List Operand} {tys : List TypeId} (h : Agree (rdOps σ args) σ σ') : effCopy P σ' t args tys = effCopy P σ t args tys := by
  unfold effCopy
  split
  · next x y tx ty =>
    have hx := h.cons.1
    have hy := h.cons.2.cons.1
    rw [sdOf_fr hx, sdOf_fr hy]
    split
    · next hd _ => rw [hx _ (sdOf_root hd)]
    · rfl
  · rfl
theorem effCall_fr {P : Program} {E : Env} {Ω : Orc α} {σ σ' : St α} {t f : Nat} {args : List Operand} (h : Agree (rdOps σ args) σ σ') : effCall P E Ω σ' t f args = effCall P E Ω σ t f args := by
  unfold effCall
  split
  · rw [argsOf_fr args _ h]
  · rfl
theorem setP_roots (v : SV α) (p : List Nat) (y : Cell α) : ∀ r ∈ rootsL (v.setP p y).cs, r ∈ rootsL v.cs := by
  intro r hr
  cases p with
  | nil => exact hr
  | cons j q =>
    simp only [SV.setP] at hr
    split at hr
    · next x hx =>
      obtain ⟨z, hz, hzr⟩ := List.mem_flatMap.1 hr
      rcases List.mem_or_eq_of_mem_set hz with hz | rfl
      · exact List.mem_flatMap.2 ⟨z, hz, hzr⟩
      · simp [SC.roots] at hzr
    · exact hr
theorem kill_roots (v : SV α) (K : List (Nat × List Nat)) : ∀ r ∈ rootsL (v.kill K).cs, r ∈ rootsL v.cs := by
  intro r hr
  obtain ⟨z, hz, hzr⟩ := List.mem_flatMap.1 hr
  simp only [SV.kill, List.mem_map] at hz
  obtain ⟨x, hx, rfl⟩ := hz
  refine List.mem_flatMap.2 ⟨x, hx, ?_⟩
  unfold SC.kill at hzr
  split at hzr
  · simp [SC.roots] at hzr
  · exact hzr
theorem effLend_fr {P : Program} {E : Env} {Ω : Orc α} {σ σ' : St α} {t f : Nat} {args : List Operand} (h : Agree (rdOps σ args) σ σ') : effLend P E Ω σ' t f args = effLend P E Ω σ t f args := by
  unfold effLend
  cases P.funcs[f]? with
  | none => rfl
  | some fn =>
    cases args with
    | nil => rfl
    | cons x rest =>
      cases x with
      | tmp s =>
        have hx := h.cons.1
        have hr := h.cons.2
        have hs := hx.one
        simp only [hs]
        by_cases hk : (σ.get s).k = .one
        case neg => simp only [if_neg hk]
        simp only [if_pos hk]
        cases hc : (σ.get s).cs with
        | nil => rfl
        | cons x l =>
          cases l with
          | cons _ _ => rfl
          | nil =>
            simp only
            cases hp : x.place s 0 with
            | none => rfl
            | some rp =>
              obtain ⟨r, p⟩ := rp
              have hg : σ'.get r = σ.get r := by
                rcases place_slot hp with rfl | hr'
                · exact hs
                · exact hx r (by simp only [rdOp, rdSlot, hc]; exact List.mem_cons_of_mem _ (List.mem_flatMap.2 ⟨x, by simp, hr'⟩))
              simp only [takeAt_fr hg]
              cases ht : takeAt σ pend0 r p with
              | none => rfl
              | some z =>
                obtain ⟨y, d⟩ := z
                have hd : d.ch = [(r, (σ.get r).setP p .dead)] := by
                  unfold takeAt at ht
                  split at ht
                  · split at ht
                    · simp only [Option.some.injEq, Prod.mk.injEq] at ht
                      rw [← ht.2]; rfl
                    · cases ht
                  · cases ht
                have hτ : argsOf P Ω ((putAll σ' d.ch.reverse).kill d.kill) fn.params.toList.tail rest = argsOf P Ω ((putAll σ d.ch.reverse).kill d.kill) fn.params.toList.tail rest := by
                  refine argsOf_fr rest _ ?_
                  have key : ∀ u, u ∈ rdOps σ rest → (σ'.pend d).get u = (σ.pend d).get u := fun u hu => by
                    rw [pend_get, pend_get, ovGet_fr (hr u hu)]
                  intro u hu
                  obtain ⟨z, hz, huz⟩ := List.mem_flatMap.1 hu
                  cases z with
                  | tmp v =>
                    refine key u (List.mem_flatMap.2 ⟨.tmp v, hz, ?_⟩)
                    rcases List.mem_cons.1 huz with rfl | huz
                    · exact List.mem_cons_self
                    · refine List.mem_cons_of_mem _ ?_
                      have h1 : (((putAll σ d.ch.reverse).kill d.kill).get v) = (ovGet σ d.ch v).kill d.kill := pend_get σ d v
                      rw [h1] at huz
                      have h2 := kill_roots _ _ u huz
                      unfold ovGet at h2
                      rw [hd] at h2
                      by_cases hvr : v = r
                      · subst hvr
                        simp only [List.lookup, beq_self_eq_true] at h2
                        exact setP_roots _ _ _ u h2
                      · have hb : (v == r) = false := by simpa using hvr
                        simp only [List.lookup, hb] at h2
                        exact h2
                  | _ => simp [rdOp] at huz
                simp only [hτ, hg]
      | _ => rfl
theorem effCallNil_fr {P : Program} {E : Env} {Ω : Orc α} {σ σ' : St α} {t f : Nat} {args : List Operand} (h : Agree (rdOps σ args) σ σ') : effCallNil P E Ω σ' t f args = effCallNil P E Ω σ t f args := by
  unfold effCallNil
  split
  · rw [argsOf_fr _ _ h.cons.2]
  · rfl
theorem effField_fr {P : Program} {σ σ' : St α} {t ty f : Nat} {x : Operand} (h : Agree (rdOp σ x) σ σ') : effField P σ' t ty x f = effField P σ t ty x f := by
  unfold effField
  cases x with
  | tmp s => cases P.underlying ty with
    | none => rfl
    | some d => cases d with
      | struct fs => simp only [h.one]
      | _ => rfl
  | _ => cases P.underlying ty with
    | none => rfl
    | some d => cases d <;> rfl
theorem effExtract_fr {σ σ' : St α} {t i : Nat} {x : Operand} (h : Agree (rdOp σ x) σ σ') : effExtract σ' t x i = effExtract σ t x i := by
  cases x with
  | tmp s => simp only [effExtract, h.one]
  | _ => rfl
theorem effNil_fr {σ σ' : St α} {t : Nat} {x : Operand} (h : Agree (rdOp σ x) σ σ') : effNil σ' t x = effNil σ t x := by
  cases x with
  | tmp s => simp only [effNil, h.one]
  | _ => rfl

/-- AN EFFECT HANGS ON ITS OPERANDS' SLOTS AND WHAT THEY LEAD TO. -/
theorem ieff_fr {P : Program} {E : Env} {Ω : Orc α} {σ σ' : St α} {o : Oper} (h : Agree (rdOps σ o.op.operands.toList) σ σ') : ieff P E Ω σ' o = ieff P E Ω σ o := by
  have hpure : ∀ t, effPure P σ' t o = effPure P σ t o := fun t => effPure_fr h
  have hx : ∀ x, x ∈ o.op.operands → Agree (rdOp σ x) σ σ' := fun x hx => h.opOf (Array.mem_toList_iff.2 hx)
  unfold ieff
  cases ho : o.op with
  | move x => simp only [effMove_fr (hx x (by rw [ho]; simp [Op.operands]))]
  | assign x => simp only [effAssign_fr (hx x (by rw [ho]; simp [Op.operands]))]
  | alloc e => rfl
  | box e x => simp only [effBox_fr (hx x (by rw [ho]; simp [Op.operands]))]
  | build ty parts =>
    have h2 : Agree (rdOps σ (parts.toList.map (·.2))) σ σ' := by rw [ho] at h; simpa [Op.operands] using h
    simp only [effBuild_fr h2]
  | buildSlice ty n parts =>
    have h2 : Agree (rdOps σ (parts.toList.map (·.2))) σ σ' := by rw [ho] at h; simpa [Op.operands] using h
    simp only [effBuildSlice_fr h2, effCut_fr h2]
  | makeSlice ty x y => simp only [effMake_fr (hx x (by rw [ho]; simp [Op.operands])) (hx y (by rw [ho]; simp [Op.operands]))]
  | load ty x => simp only [effLoad_fr (hx x (by rw [ho]; simp [Op.operands]))]
  | store ty x y => simp only [effStore_fr (hx x (by rw [ho]; simp [Op.operands])) (hx y (by rw [ho]; simp [Op.operands]))]
  | field ty x f => simp only [hpure, effField_fr (hx x (by rw [ho]; simp [Op.operands]))]
  | fieldAddr ty x f => simp only [effFieldAddr_fr (hx x (by rw [ho]; simp [Op.operands]))]
  | indexAddr ty x y => simp only [effIndexAddr_fr (hx x (by rw [ho]; simp [Op.operands])) (hx y (by rw [ho]; simp [Op.operands]))]
  | slice ty x lo hi mx =>
    have := @effSlice_fr α P Ω σ σ'
    simp only [hpure, effSliceArr_fr (hx x (by rw [ho]; simp [Op.operands])), effSliceNil_fr (fun x h => valOf_fr (hx x h))]
    cases hd : o.dst with
    | none => rfl
    | some t =>
      simp only
      rw [effSlice_fr (hx x (by rw [ho]; simp [Op.operands])) (fun y hy => hx y (by rw [ho]; simp [Op.operands, hy])) (fun y hy => hx y (by rw [ho]; simp [Op.operands, hy])) (fun y hy => hx y (by rw [ho]; simp [Op.operands, hy]))]
  | binOp op ty x y r => simp only [hpure, effNilCmp_fr (hx x (by rw [ho]; simp [Op.operands]))]
  | extract x i => simp only [effExtract_fr (hx x (by rw [ho]; simp [Op.operands]))]
  | nilCheck x => simp only [effNil_fr (hx x (by rw [ho]; simp [Op.operands]))]
  | call c =>
    have h2 : Agree (rdOps σ c.args.toList) σ σ' := by
      refine h.sub fun r hr => ?_
      obtain ⟨y, hy1, hy2⟩ := List.mem_flatMap.1 hr
      refine List.mem_flatMap.2 ⟨y, ?_, hy2⟩
      rw [ho]; simp only [Op.operands, Call.operands, Array.toList_append, List.mem_append]
      exact .inr hy1
    simp only [hpure, effLen_fr h2, effAppend_fr h2, effCopy_fr h2, effCall_fr h2, effLend_fr h2, effCallNil_fr h2]
  | _ => simp only [hpure]
end
end Go.Proofs.Ytnmocjhpbobahaa.L
namespace Go.Proofs.Ytnmocjhpbobahaa.L
open Go Go.RowKit

def stepEff (P : Program) (E : Env) (N : Nat) (ops : Array Oper) (σ : St Unit) (o : Oper) : Option (Eff Unit) := match wantedS σ ops o with
  | some true => if dstOk N o then ieff P E ΩU σ o else none
  | some false => if dstOk N o then match o.dst with
    | some t => some (effPut t undefSV)
    | none => some ⟨[], [], []⟩ else none
  | none => none
theorem stepOp_eff {P : Program} {E : Env} {N : Nat} {ops : Array Oper} {σ : St Unit} {o : Oper} {e : Eff Unit} (h : stepEff P E N ops σ o = some e) : stepOp P E N ops σ o = some (σ.app e) := by
  unfold stepEff at h
  unfold stepOp
  split at h
  · next hw =>
    rw [hw]
    simp only
    split at h
    · next hd => rw [if_pos hd, h]
    · cases h
  · next hw =>
    rw [hw]
    simp only
    split at h
    · next hd =>
      rw [if_pos hd]
      split at h
      · next t ht => simp only [Option.some.injEq] at h; subst h; rw [ht]
      · next ht => simp only [Option.some.injEq] at h; subst h; rw [ht]; rfl
    · cases h
  · cases h
def rdGuard (ops : Array Oper) (o : Oper) : List Nat := match o.guard with
  | some (j, _) => ((ops[j]?).bind (·.dst)).toList
  | none => []
def rdO (σ : St Unit) (ops : Array Oper) (o : Oper) : List Nat := rdGuard ops o ++ rdOps σ o.op.operands.toList
theorem wantedS_fr {σ σ' : St Unit} {ops : Array Oper} {o : Oper} (h : Agree (rdGuard ops o) σ σ') : wantedS σ' ops o = wantedS σ ops o := by
  unfold wantedS
  cases hg : o.guard with
  | none => rfl
  | some jw =>
    obtain ⟨j, w⟩ := jw
    simp only
    cases ht : (ops[j]?).bind (·.dst) with
    | none => rfl
    | some t => simp only; rw [h t (by simp [rdGuard, hg, ht])]
theorem stepEff_fr {P : Program} {E : Env} {N : Nat} {ops : Array Oper} {σ σ' : St Unit} {o : Oper} (h : Agree (rdO σ ops o) σ σ') : stepEff P E N ops σ' o = stepEff P E N ops σ o := by
  unfold stepEff
  rw [wantedS_fr (h.sub fun s hs => by simp [rdO, hs]), ieff_fr (h.sub fun s hs => by simp [rdO, hs])]
theorem rdOp_fr {σ σ' : St Unit} {x : Operand} (h : Agree (rdOp σ x) σ σ') : rdOp σ' x = rdOp σ x := by
  cases x with
  | tmp s => simp only [rdOp, rdSlot, h.one]
  | _ => rfl
theorem rdOps_fr {σ σ' : St Unit} : ∀ (l : List Operand), Agree (rdOps σ l) σ σ' → rdOps σ' l = rdOps σ l
  | [], _ => rfl
  | x :: l, h => by
    have := rdOps_fr l h.cons.2
    unfold rdOps at this ⊢
    rw [List.flatMap_cons, List.flatMap_cons, this, rdOp_fr h.cons.1]
theorem rdO_fr {σ σ' : St Unit} {ops : Array Oper} {o : Oper} (h : Agree (rdO σ ops o) σ σ') : rdO σ' ops o = rdO σ ops o := by
  unfold rdO
  rw [rdOps_fr _ (h.sub fun s hs => by simp [rdO, hs])]

theorem putAll_congr {α : Type} {s : Nat} : ∀ (l : List (Nat × SV α)) (σ σ' : St α), σ'.get s = σ.get s → (putAll σ' l).get s = (putAll σ l).get s
  | [], _, _, h => h
  | (t, v) :: l, σ, σ', h => by
    simp only [putAll]
    exact putAll_congr l _ _ (by rw [get_put, get_put, h])
theorem app_congr {α : Type} {σ σ' : St α} {s : Nat} (h : σ'.get s = σ.get s) (e : Eff α) : (σ'.app e).get s = (σ.app e).get s := by
  unfold St.app
  refine putAll_congr _ _ _ ?_
  rw [get_kill, get_kill, putAll_congr _ _ _ h]

/-! ### the plan of a region -/
inductive Role where
  | fn (lo hi : Nat)
  | wr (k : Nat)
/-- A: whom an operation must wait for (a mask for each); roles; the writers in their order; D: who fills a slot. -/
structure Cert where
  A : List Nat
  roles : List Role
  ws : List Nat
  D : List (Nat × Nat)
def Cert.anc (C : Cert) (i b : Nat) : Bool := (C.A.getD i 0).testBit b
def okRead (C : Cert) (i s : Nat) : Bool := match C.D.lookup s with
  | some g => C.anc i g
  | none => true
def isPut (e : Eff Unit) (d : Nat) : Option (SV Unit) := match e.pre, e.kill, e.post with
  | [(t, v)], [(t', [])], [] => if t = d ∧ t' = d then some v else none
  | _, _, _ => none
theorem isPut_eq {e : Eff Unit} {d : Nat} {v : SV Unit} (h : isPut e d = some v) : e = effPut d v := by
  obtain ⟨pre, kill, post⟩ := e
  unfold isPut at h
  split at h
  · next h1 h2 h3 =>
    simp only at h1 h2 h3
    subst h1; subst h2; subst h3
    split at h
    · next hd =>
      simp only [Option.some.injEq] at h
      subst h
      obtain ⟨rfl, rfl⟩ := hd
      rfl
    · cases h
  · cases h
/-- Surely the same (what is of many parts does not count). -/
def scSame : SC Unit → SC Unit → Bool
  | .view r p, .view r' p' => r == r' && p == p'
  | .ref r p o m, .ref r' p' o' m' => r == r' && p == p' && o == o' && m == m'
  | .win r p a b f, .win r' p' a' b' f' => r == r' && p == p' && a == a' && b == b' && f == f'
  | .c (.sc (.int k n)), .c (.sc (.int k' n')) => decide (k = k') && decide (n = n')
  | .c (.sc (.bool b)), .c (.sc (.bool b')) => b == b'
  | _, _ => false
def scsSame : List (SC Unit) → List (SC Unit) → Bool
  | [], [] => true
  | x :: l, y :: m => scSame x y && scsSame l m
  | _, _ => false
def svSame (v u : SV Unit) : Bool := decide (v.k = u.k) && scsSame v.cs u.cs
theorem scSame_eq {x y : SC Unit} (h : scSame x y = true) : x = y := by
  unfold scSame at h
  split at h <;> simp_all
theorem scsSame_eq : ∀ {l m : List (SC Unit)}, scsSame l m = true → l = m
  | [], [], _ => rfl
  | x :: l, y :: m, h => by
    simp only [scsSame, Bool.and_eq_true] at h
    rw [scSame_eq h.1, scsSame_eq h.2]
  | [], y :: m, h => by simp [scsSame] at h
  | x :: l, [], h => by simp [scsSame] at h
theorem svSame_eq {v u : SV Unit} (h : svSame v u = true) : v = u := by
  obtain ⟨k, cs⟩ := v
  obtain ⟨k', cs'⟩ := u
  simp only [svSame, Bool.and_eq_true, decide_eq_true_eq] at h
  rw [h.1, scsSame_eq h.2]

/-- No slot leads to one that is yet to be filled. -/
def rootsOk (C : Cert) (j : Nat) (τ : St Unit) : Bool := τ.all fun x => (rootsL x.2.cs).all fun r => match C.D.lookup r with
  | none => true
  | some f => (match C.roles[f]? with
    | some (.fn _ hi) => decide (hi < j)
    | _ => true) || (match C.D.lookup x.1 with
    | some g => C.anc g f
    | none => false)
def doAgain (P : Program) (E : Env) (N : Nat) (ops : Array Oper) (C : Cert) (τ : St Unit) : List Nat → Bool
  | [] => true
  | i :: l => (match ops[i]? with
    | some o => match o.dst, stepEff P E N ops τ o with
      | some d, some e => match isPut e d with
        | some v => svSame v (τ.get d) && (rdO τ ops o).all (okRead C i)
        | none => false
      | _, _ => false
    | none => false) && doAgain P E N ops C τ l
def doFresh (P : Program) (E : Env) (N : Nat) (ops : Array Oper) (C : Cert) : List Nat → St Unit → Option (St Unit)
  | [], τ => some τ
  | i :: l, τ => match ops[i]? with
    | some o => match o.dst, stepEff P E N ops τ o with
      | some d, some e => match isPut e d with
        | some v => if (rdO τ ops o).all (okRead C i) && (rootsL v.cs).all (okRead C i) then doFresh P E N ops C l (τ.put d v) else none
        | none => none
      | _, _ => none
    | none => none
def phaseRun (P : Program) (E : Env) (N : Nat) (ops : Array Oper) (C : Cert) (j : Nat) (pl : List Nat × List Nat) (τ : St Unit) : Option (St Unit) :=
  if rootsOk C j τ && doAgain P E N ops C τ pl.2 then doFresh P E N ops C pl.1 τ else none

/-- What a region's shape shows, once for all. -/
structure Static (ops : Array Oper) (C : Cert) (m : Nat) : Prop where
  size : C.roles.length = ops.size
  edge : ∀ (i : Nat) (o : Oper), ops[i]? = some o → ∀ e ∈ o.after.toList, Region.binds .any e = true → e.on < i
  anc : ∀ (i : Nat) (o : Oper) (b : Nat), ops[i]? = some o → C.anc i b = true → ∃ e ∈ o.after.toList, Region.binds .any e = true ∧ (b = e.on ∨ C.anc e.on b = true)
  fn : ∀ (i : Nat) (o : Oper) (lo hi : Nat), ops[i]? = some o → C.roles[i]? = some (.fn lo hi) → lo ≤ hi ∧ hi ≤ m ∧ (∃ d, o.dst = some d ∧ C.D.lookup d = some i) ∧ (∀ k, k < lo → ∃ w, C.ws[k]? = some w ∧ C.anc i w = true) ∧ (hi < m → ∃ w, C.ws[hi]? = some w ∧ C.anc w i = true)
  wr : ∀ (i k : Nat), C.roles[i]? = some (.wr k) → C.ws[k]? = some i ∧ k < m
  ws : ∀ (k w : Nat), C.ws[k]? = some w → C.roles[w]? = some (.wr k)
  chain : ∀ (k w w' : Nat), C.ws[k]? = some w → C.ws[k + 1]? = some w' → C.anc w' w = true
  len : C.ws.length = m
  mono : ∀ (i k lo hi lo' hi' : Nat), C.roles[i]? = some (.fn lo hi) → C.roles[k]? = some (.fn lo' hi') → C.anc i k = true → lo' ≤ lo
  filled : ∀ (s g : Nat), C.D.lookup s = some g → ∃ o lo hi, ops[g]? = some o ∧ C.roles[g]? = some (.fn lo hi) ∧ o.dst = some s

section
variable {ops : Array Oper} {C : Cert} {m : Nat}
theorem anc_lt (h : Static ops C m) : ∀ (i b : Nat), i < ops.size → C.anc i b = true → b < i := by
  intro i
  induction i using Nat.strongRecOn with
  | _ i ih =>
    intro b hi hb
    obtain ⟨o, ho⟩ : ∃ o, ops[i]? = some o := ⟨ops[i], Array.getElem?_eq_getElem hi⟩
    obtain ⟨e, he, hbi, h1⟩ := h.anc i o b ho hb
    have hlt := h.edge i o ho e he hbi
    rcases h1 with rfl | h1
    · exact hlt
    · exact Nat.lt_trans (ih e.on hlt b (Nat.lt_trans hlt hi) h1) hlt

/-- What holds at a phase's end. -/
structure PhaseOk (P : Program) (E : Env) (N : Nat) (ops : Array Oper) (C : Cert) (j : Nat) (S : St Unit) : Prop where
  eff : ∀ (i : Nat) (o : Oper) (d lo hi : Nat), ops[i]? = some o → C.roles[i]? = some (.fn lo hi) → o.dst = some d → lo ≤ j → j ≤ hi → stepEff P E N ops S o = some (effPut d (S.get d)) ∧ ∀ s ∈ rdO S ops o, okRead C i s = true
  roots : ∀ (i : Nat) (o : Oper) (d lo hi s : Nat), ops[i]? = some o → C.roles[i]? = some (.fn lo hi) → o.dst = some d → lo ≤ j → j ≤ hi → d ∈ rootsL (S.get s).cs → ∃ g, C.D.lookup s = some g ∧ C.anc g i = true

theorem mem_get {τ : St Unit} {s : Nat} {r : Nat} (h : r ∈ rootsL (τ.get s).cs) : (s, τ.get s) ∈ τ := by
  unfold St.get at h ⊢
  cases hl : τ.lookup s with
  | none => rw [hl] at h; simp [SV.dead, rootsL, SC.roots] at h
  | some v =>
    simp only
    clear h
    induction τ with
    | nil => cases hl
    | cons x l ih =>
      obtain ⟨t, u⟩ := x
      simp only [List.lookup] at hl
      split at hl
      · next he =>
        simp only [Option.some.injEq] at hl
        subst hl
        have : s = t := by simpa using he
        subst this
        simp
      · exact List.mem_cons_of_mem _ (ih hl)

/-- While a phase's fresh ones are laid: those laid so far are as at the end. -/
theorem fresh_ok {P : Program} {E : Env} {N : Nat} (h : Static ops C m) {j : Nat} : ∀ (l : List Nat) (τ S : St Unit), (∀ i ∈ l, ∃ hi, C.roles[i]? = some (.fn j hi)) → l.Pairwise (· < ·) → doFresh P E N ops C l τ = some S →
    (∀ s, (∀ i o, i ∈ l → ops[i]? = some o → o.dst ≠ some s) → S.get s = τ.get s) ∧
    (∀ i o d, i ∈ l → ops[i]? = some o → o.dst = some d → stepEff P E N ops S o = some (effPut d (S.get d)) ∧ (∀ s ∈ rdO S ops o, okRead C i s = true) ∧ ∀ r ∈ rootsL (S.get d).cs, okRead C i r = true) ∧ (∀ i ∈ l, i < ops.size)
  | [], τ, S, _, _, hr => by
    simp only [doFresh, Option.some.injEq] at hr
    subst hr
    exact ⟨fun _ _ => rfl, by simp, by simp⟩
  | i :: l, τ, S, hl, hp, hr => by
    simp only [doFresh] at hr
    split at hr
    · next o ho =>
      split at hr
      · next d e hd he =>
        split at hr
        · next v hv =>
          split at hr
          · next hok =>
            simp only [Bool.and_eq_true, List.all_eq_true] at hok
            have hp' := List.pairwise_cons.1 hp
            obtain ⟨a1, a2, a3⟩ := fresh_ok h l (τ.put d v) S (fun k hk => hl k (by simp [hk])) hp'.2 hr
            have hi : i < ops.size := (Array.getElem?_eq_some_iff.1 ho).1
            obtain ⟨hi', hrole⟩ := hl i (by simp)
            obtain ⟨_, _, ⟨d0, hd0, hD⟩, _, _⟩ := h.fn i o j hi' ho hrole
            rw [hd] at hd0; cases hd0
            -- a slot that i may read, or i's own, is not filled by a later one
            have hlater : ∀ s, okRead C i s = true ∨ s = d → ∀ k o', k ∈ l → ops[k]? = some o' → o'.dst ≠ some s := by
              intro s hs k o' hk hk' hds
              obtain ⟨hk2, hkr⟩ := hl k (by simp [hk])
              obtain ⟨_, _, ⟨d1, hd1, hD1⟩, _, _⟩ := h.fn k o' j hk2 hk' hkr
              rw [hds] at hd1; cases hd1
              have hlt := hp'.1 k hk
              rcases hs with hs | rfl
              · unfold okRead at hs
                rw [hD1] at hs
                have := anc_lt h i k hi hs
                omega
              · rw [hD] at hD1; cases hD1; omega
            have hget : ∀ s, okRead C i s = true ∨ s = d → S.get s = (τ.put d v).get s := fun s hs => a1 s (hlater s hs)
            have hself : ∀ s, okRead C i s = true → s ≠ d := by
              intro s hs e'
              subst e'
              unfold okRead at hs
              rw [hD] at hs
              have := anc_lt h i i hi hs
              omega
            have hag : Agree (rdO τ ops o) τ S := by
              intro s hs
              rw [hget s (.inl (hok.1 s hs)), get_put, if_neg (hself s (hok.1 s hs))]
            have hSd : S.get d = v := by rw [hget d (.inr rfl), get_put, if_pos rfl]
            refine ⟨?_, ?_, ?_⟩
            · intro s hs
              rw [a1 s fun k o' hk => hs k o' (by simp [hk]), get_put, if_neg]
              intro e'
              subst e'
              exact hs i o (by simp) ho hd
            · intro k o' d' hk hk' hd'
              rcases List.mem_cons.1 hk with rfl | hk
              · rw [ho] at hk'; cases hk'
                rw [hd] at hd'; cases hd'
                rw [stepEff_fr hag, rdO_fr hag, hSd, he, isPut_eq hv]
                exact ⟨rfl, hok.1, hok.2⟩
              · exact a2 k o' d' hk hk' hd'
            · intro k hk
              rcases List.mem_cons.1 hk with rfl | hk
              · exact hi
              · exact a3 k hk
          · cases hr
        · cases hr
      · cases hr
    · cases hr
end
end Go.Proofs.Ytnmocjhpbobahaa.L
namespace Go.Proofs.Ytnmocjhpbobahaa.L
open Go Go.RowKit

structure PlanAt (C : Cert) (j : Nat) (pl : List Nat × List Nat) : Prop where
  fresh : ∀ (i : Nat), i ∈ pl.1 ↔ ∃ hi, C.roles[i]? = some (.fn j hi)
  inc : pl.1.Pairwise (· < ·)
  again : ∀ (i lo hi : Nat), C.roles[i]? = some (.fn lo hi) → lo < j → j ≤ hi → i ∈ pl.2

section
variable {ops : Array Oper} {C : Cert} {m : Nat}
theorem again_ok {P : Program} {E : Env} {N : Nat} {τ : St Unit} : ∀ (l : List Nat), doAgain P E N ops C τ l = true → ∀ (i : Nat) (o : Oper) (d : Nat), i ∈ l → ops[i]? = some o → o.dst = some d → stepEff P E N ops τ o = some (effPut d (τ.get d)) ∧ ∀ s ∈ rdO τ ops o, okRead C i s = true
  | [], _, i, o, d, hi, _, _ => by cases hi
  | k :: l, h, i, o, d, hi, ho, hd => by
    simp only [doAgain, Bool.and_eq_true] at h
    obtain ⟨h1, h2⟩ := h
    rcases List.mem_cons.1 hi with rfl | hi
    · rw [ho] at h1
      simp only [hd] at h1
      split at h1
      · next d' e hd' he =>
        cases hd'
        split at h1
        · next v hv =>
          simp only [Bool.and_eq_true, List.all_eq_true] at h1
          rw [he, isPut_eq hv, svSame_eq h1.1]
          exact ⟨rfl, h1.2⟩
        · cases h1
      · cases h1
    · exact again_ok l h2 i o d hi ho hd

theorem phase_ok {P : Program} {E : Env} {N : Nat} (h : Static ops C m) {j : Nat} {pl : List Nat × List Nat} (hp : PlanAt C j pl) {τ S : St Unit} (hr : phaseRun P E N ops C j pl τ = some S) :
    PhaseOk P E N ops C j S ∧ ∀ s, (∀ (i : Nat) (o : Oper) (hi : Nat), ops[i]? = some o → C.roles[i]? = some (.fn j hi) → o.dst ≠ some s) → S.get s = τ.get s := by
  unfold phaseRun at hr
  split at hr
  · next hc =>
    simp only [Bool.and_eq_true] at hc
    obtain ⟨hroots, hag⟩ := hc
    obtain ⟨a1, a2, a3⟩ := fresh_ok h pl.1 τ S (fun i hi => (hp.fresh i).1 hi) hp.inc hr
    have hkeep : ∀ s, (∀ (i : Nat) (o : Oper) (hi : Nat), ops[i]? = some o → C.roles[i]? = some (.fn j hi) → o.dst ≠ some s) → S.get s = τ.get s := by
      intro s hs
      refine a1 s fun i o hi ho => ?_
      obtain ⟨hi', hrole⟩ := (hp.fresh i).1 hi
      exact hs i o hi' ho hrole
    refine ⟨⟨?_, ?_⟩, hkeep⟩
    · intro i o d lo hi ho hrole hd hlo hhi
      rcases Nat.lt_or_ge lo j with hlt | hge
      · obtain ⟨b1, b2⟩ := again_ok pl.2 hag i o d (hp.again i lo hi hrole hlt hhi) ho hd
        obtain ⟨_, _, ⟨d0, hd0, hD⟩, _, _⟩ := h.fn i o lo hi ho hrole
        rw [hd] at hd0; cases hd0
        have hsame : ∀ s, okRead C i s = true ∨ s = d → S.get s = τ.get s := by
          intro s hs
          refine hkeep s fun k o' hi' hk hkr hds => ?_
          obtain ⟨_, _, ⟨d1, hd1, hD1⟩, _, _⟩ := h.fn k o' j hi' hk hkr
          rw [hds] at hd1; cases hd1
          rcases hs with hs | rfl
          · unfold okRead at hs
            rw [hD1] at hs
            have := h.mono i k lo hi j hi' hrole hkr hs
            omega
          · rw [hD] at hD1; cases hD1
            rw [hrole] at hkr; cases hkr
            omega
        have hagree : Agree (rdO τ ops o) τ S := fun s hs => hsame s (.inl (b2 s hs))
        rw [stepEff_fr hagree, rdO_fr hagree, hsame d (.inr rfl)]
        exact ⟨b1, b2⟩
      · have : lo = j := by omega
        subst this
        obtain ⟨b1, b2, _⟩ := a2 i o d ((hp.fresh i).2 ⟨hi, hrole⟩) ho hd
        exact ⟨b1, b2⟩
    · intro i o d lo hi s ho hrole hd hlo hhi hmem
      obtain ⟨_, _, ⟨d0, hd0, hD⟩, _, _⟩ := h.fn i o lo hi ho hrole
      rw [hd] at hd0; cases hd0
      by_cases hex : ∃ (k : Nat) (o' : Oper) (hi' : Nat), ops[k]? = some o' ∧ C.roles[k]? = some (.fn j hi') ∧ o'.dst = some s
      · obtain ⟨k, o', hi', hk, hkr, hds⟩ := hex
        obtain ⟨_, _, b3⟩ := a2 k o' s ((hp.fresh k).2 ⟨hi', hkr⟩) hk hds
        have := b3 d hmem
        unfold okRead at this
        rw [hD] at this
        obtain ⟨_, _, ⟨d1, hd1, hD1⟩, _, _⟩ := h.fn k o' j hi' hk hkr
        rw [hds] at hd1; cases hd1
        exact ⟨k, hD1, this⟩
      · have hs := hkeep s fun k o' hi' hk hkr hds => hex ⟨k, o', hi', hk, hkr, hds⟩
        rw [hs] at hmem
        have hall := List.all_eq_true.1 hroots _ (mem_get hmem)
        have := List.all_eq_true.1 hall d hmem
        simp only [hD, hrole, Bool.or_eq_true, decide_eq_true_eq] at this
        rcases this with q | q
        · omega
        · cases hg : C.D.lookup s with
          | none => rw [hg] at q; cases q
          | some g => rw [hg] at q; exact ⟨g, rfl, q⟩
  · cases hr

/-- A region in whatever order, by the trees: phase for phase. -/
def drawRun (P : Program) (E : Env) (N : Nat) (ops : Array Oper) (C : Cert) : Nat → List (List Nat × List Nat) → St Unit → Option (St Unit)
  | _, [], _ => none
  | j, pl :: rest, τ => match phaseRun P E N ops C j pl τ with
    | some S => match rest with
      | [] => some S
      | pl' :: rest' => match C.ws[j]? with
        | some i => match ops[i]? with
          | some o => match stepEff P E N ops S o with
            | some e => if (rdO S ops o).all (okRead C i) then drawRun P E N ops C (j + 1) (pl' :: rest') (S.app e) else none
            | none => none
          | none => none
        | none => none
    | none => none
def Tail (P : Program) (E : Env) (N : Nat) (ops : Array Oper) (C : Cert) (j : Nat) (rest : List (List Nat × List Nat)) (S σ' : St Unit) : Prop :=
  (rest = [] ∧ S = σ') ∨ (rest ≠ [] ∧ ∃ (i : Nat) (o : Oper) (e : Eff Unit), C.ws[j]? = some i ∧ ops[i]? = some o ∧ stepEff P E N ops S o = some e ∧ (∀ s ∈ rdO S ops o, okRead C i s = true) ∧ drawRun P E N ops C (j + 1) rest (S.app e) = some σ')
theorem drawRun_cons {P : Program} {E : Env} {N j : Nat} {pl : List Nat × List Nat} {rest : List (List Nat × List Nat)} {τ σ' : St Unit} (h : drawRun P E N ops C j (pl :: rest) τ = some σ') : ∃ S, phaseRun P E N ops C j pl τ = some S ∧ Tail P E N ops C j rest S σ' := by
  unfold drawRun at h
  split at h
  · next S hS =>
    refine ⟨S, hS, ?_⟩
    split at h
    · simp only [Option.some.injEq] at h
      exact .inl ⟨rfl, h⟩
    · split at h
      · next i hi =>
        split at h
        · next o ho =>
          split at h
          · next e he =>
            split at h
            · next hok => exact .inr ⟨by simp, i, o, e, hi, ho, he, fun s hs => List.all_eq_true.1 hok s hs, h⟩
            · cases h
          · cases h
        · cases h
      · cases h
  · cases h

/-! ### what is listed -/
def cntF : List Bool → Nat
  | [] => 0
  | true :: l => cntF l
  | false :: l => cntF l + 1
theorem cntF_set : ∀ (l : List Bool) (i : Nat), l[i]? = some false → cntF (l.set i true) + 1 = cntF l
  | [], i, h => by simp at h
  | b :: l, 0, h => by simp only [List.getElem?_cons_zero, Option.some.injEq] at h; subst h; rfl
  | b :: l, i + 1, h => by
    have := cntF_set l i (by simpa using h)
    cases b <;> simp only [List.set_cons_succ, cntF] <;> omega
theorem cntF_zero : ∀ (l : List Bool), cntF l = 0 → ∀ b ∈ l, b = true
  | [], _, b, hb => by cases hb
  | true :: l, h, b, hb => by
    rcases List.mem_cons.1 hb with rfl | hb
    · rfl
    · exact cntF_zero l h b hb
  | false :: l, h, b, hb => by simp [cntF] at h
theorem cntF_rep : ∀ n : Nat, cntF (List.replicate n false) = n
  | 0 => rfl
  | n + 1 => by simp [List.replicate_succ, cntF, cntF_rep n]
def Lst (L : Array Bool) (i : Nat) : Prop := L.getD i false = true
theorem lst_iff {L : Array Bool} {i : Nat} : Lst L i ↔ L[i]? = some true := by
  unfold Lst
  rw [Array.getD_eq_getD_getElem?]
  cases h : L[i]? with
  | none => simp
  | some b => simp
theorem lst_set {L : Array Bool} {i k : Nat} (hi : i < L.size) : Lst (L.setIfInBounds i true) k ↔ k = i ∨ Lst L k := by
  rw [lst_iff, lst_iff, Array.getElem?_setIfInBounds]
  split
  · next h => subst h; simp [hi]
  · next h => constructor
              · exact fun q => .inr q
              · rintro (rfl | q)
                · exact absurd rfl h
                · exact q
def Down (ops : Array Oper) (L : Array Bool) : Prop := ∀ (i : Nat) (o : Oper), ops[i]? = some o → Lst L i → ∀ e ∈ o.after.toList, Region.binds .any e = true → Lst L e.on
theorem anc_lst (h : Static ops C m) {L : Array Bool} (hd : Down ops L) : ∀ (i b : Nat) (o : Oper), ops[i]? = some o → (∀ e ∈ o.after.toList, Region.binds .any e = true → Lst L e.on) → C.anc i b = true → Lst L b := by
  intro i
  induction i using Nat.strongRecOn with
  | _ i ih =>
    intro b o ho he hb
    obtain ⟨e, h1, h2, h3⟩ := h.anc i o b ho hb
    have hl := he e h1 h2
    rcases h3 with rfl | h3
    · exact hl
    · have hlt := h.edge i o ho e h1 h2
      have hsz : i < ops.size := (Array.getElem?_eq_some_iff.1 ho).1
      obtain ⟨o', ho'⟩ : ∃ o', ops[e.on]? = some o' := ⟨ops[e.on], Array.getElem?_eq_getElem (Nat.lt_trans hlt hsz)⟩
      exact ih e.on hlt b o' ho' (hd e.on o' ho' hl) h3
theorem ready_mem {L : Array Bool} {i : Nat} : i ∈ Region.ready .any ops L ↔ i < ops.size ∧ L.getD i true = false ∧ ∃ o, ops[i]? = some o ∧ ∀ e ∈ o.after.toList, Region.binds .any e = true → Lst L e.on := by
  unfold Region.ready
  rw [List.mem_filter, List.mem_range]
  constructor
  · rintro ⟨h1, h2⟩
    simp only [Bool.and_eq_true, Bool.not_eq_true'] at h2
    refine ⟨h1, h2.1, ops[i], Array.getElem?_eq_getElem h1, ?_⟩
    have h3 := h2.2
    rw [Array.getElem?_eq_getElem h1] at h3
    simp only [Option.map_some, Option.getD_some] at h3
    rw [← Array.all_toList, List.all_eq_true] at h3
    intro e he hb
    have := h3 e he
    simpa [hb, Lst] using this
  · rintro ⟨h1, h2, o, ho, h3⟩
    refine ⟨h1, ?_⟩
    simp only [h2, Bool.not_false, Bool.true_and, ho, Option.map_some, Option.getD_some]
    rw [← Array.all_toList, List.all_eq_true]
    intro e he
    cases hb : Region.binds .any e with
    | false => rfl
    | true => simpa [Lst] using h3 e he hb
end
end Go.Proofs.Ytnmocjhpbobahaa.L
namespace Go.Proofs.Ytnmocjhpbobahaa.L
open Go Go.RowKit

section
variable {ops : Array Oper} {C : Cert} {m : Nat}
theorem kill_own {v : SV Unit} {d : Nat} (h : d ∉ rootsL v.cs) : v.kill [(d, [])] = v := by
  obtain ⟨k, cs⟩ := v
  simp only [SV.kill, SV.mk.injEq, true_and]
  simp only at h
  refine (List.map_congr_left (g := id) fun x hx => ?_).trans (List.map_id cs)
  have hr : d ∉ x.roots := fun q => h (List.mem_flatMap.2 ⟨x, hx, q⟩)
  unfold SC.kill
  rw [if_neg]
  · rfl
  · simp only [List.any_cons, List.any_nil, Bool.or_false]
    cases x with
    | view r p => simp only [SC.dies, SC.roots, List.mem_singleton] at hr ⊢; simp; exact fun e => hr e.symm
    | win r p lo n f => simp only [SC.dies, SC.roots, List.mem_singleton] at hr ⊢; simp; exact fun e => hr e.symm
    | ref r p off m => simp only [SC.dies, SC.roots, List.mem_singleton] at hr ⊢; simp; exact fun e => hr e.symm
    | cut r y ws => simp only [SC.dies, SC.roots, List.mem_singleton] at hr ⊢; simp; exact fun e => absurd e.symm hr
    | _ => simp [SC.dies]

/-- What holds of the orders so far. -/
structure Sofar (P : Program) (E : Env) (N : Nat) (ops : Array Oper) (C : Cert) (m : Nat) (σ' : St Unit) (L : Array Bool) (j : Nat) (S : St Unit) (rest : List (List Nat × List Nat)) (σ : St Unit) : Prop where
  size : L.size = ops.size
  down : Down ops L
  wrs : ∀ (k w : Nat), C.ws[k]? = some w → (Lst L w ↔ k < j)
  ph : PhaseOk P E N ops C j S
  tail : Tail P E N ops C j rest S σ'
  plan : ∀ (q : Nat) pl, rest[q]? = some pl → PlanAt C (j + 1 + q) pl
  count : j + rest.length = m
  agree : ∀ s, (∀ (i : Nat) (o : Oper) (lo hi : Nat), ops[i]? = some o → C.roles[i]? = some (.fn lo hi) → o.dst = some s → Lst L i) → σ.get s = S.get s

theorem all_listed (h : Static ops C m) {L : Array Bool} (hr : Region.ready .any ops L = []) (hs : L.size = ops.size) : ∀ i, i < ops.size → Lst L i := by
  intro i
  induction i using Nat.strongRecOn with
  | _ i ih =>
    intro hi
    cases hb : L[i]? with
    | none => rw [Array.getElem?_eq_none_iff] at hb; omega
    | some b =>
      cases b with
      | true => exact lst_iff.2 hb
      | false =>
        exfalso
        have : i ∈ Region.ready .any ops L := by
          refine ready_mem.2 ⟨hi, by rw [Array.getD_eq_getD_getElem?, hb]; rfl, ops[i], Array.getElem?_eq_getElem hi, ?_⟩
          intro e he hbind
          have hlt := h.edge i ops[i] (Array.getElem?_eq_getElem hi) e he hbind
          exact ih e.on hlt (Nat.lt_trans hlt hi)
        rw [hr] at this
        cases this
theorem sofar_end (h : Static ops C m) {P : Program} {E : Env} {N : Nat} {σ' σ S : St Unit} {L : Array Bool} {j : Nat} {rest : List (List Nat × List Nat)} (hs : Sofar P E N ops C m σ' L j S rest σ) (hr : Region.ready .any ops L = []) : ∀ s, σ.get s = σ'.get s := by
  have hall := all_listed h hr hs.size
  have hS : S = σ' := by
    rcases hs.tail with ⟨_, e⟩ | ⟨hne, i, o, e, hi, ho, _⟩
    · exact e
    · exfalso
      have := (hs.wrs j i hi).1 (hall i (Array.getElem?_eq_some_iff.1 ho).1)
      omega
  subst hS
  intro s
  exact hs.agree s fun i o lo hi ho _ _ => hall i (Array.getElem?_eq_some_iff.1 ho).1

theorem draw_any {P : Program} {E : Env} (hE : EnvOk P E) {N : Nat} (h : Static ops C m) {w0 : W0} {ds : List Deferred} {σ' : St Unit} {Q : Exit → Act → World → Prop}
    (hq : ∀ σF tm' w', (∀ s, σF.get s = σ'.get s) → Rel w0 N σF tm' w' → Q .normal ⟨tm', ds⟩ w') :
    ∀ (fuel : Nat) (L : Array Bool) (j : Nat) (S : St Unit) (rest : List (List Nat × List Nat)) (σ : St Unit) (tm : Array Value) (w : World),
      cntF L.toList ≤ fuel → Sofar P E N ops C m σ' L j S rest σ → Rel w0 N σ tm w → wpAny P .any ops Q fuel L ⟨tm, ds⟩ w := by
  intro fuel
  induction fuel with
  | zero =>
    intro L j S rest σ tm w hc hs hrel
    have hr : Region.ready .any ops L = [] := by
      rw [List.eq_nil_iff_forall_not_mem]
      intro i hi
      obtain ⟨h1, h2, _⟩ := ready_mem.1 hi
      have hz := cntF_zero L.toList (by omega)
      cases hb : L[i]? with
      | none => rw [Array.getElem?_eq_none_iff] at hb; have := hs.size; omega
      | some b =>
        rw [Array.getD_eq_getD_getElem?, hb] at h2
        simp only [Option.getD_some] at h2
        subst h2
        have := hz false (by rw [← Array.getElem?_toList] at hb; exact List.mem_of_getElem? hb)
        cases this
    exact ⟨hr, hq σ tm w (sofar_end h hs hr) hrel⟩
  | succ fuel ih =>
    intro L j S rest σ tm w hc hs hrel
    refine ⟨fun hr => hq σ tm w (sofar_end h hs hr) hrel, ?_⟩
    intro i hi
    obtain ⟨hsz, hfalse, o, ho, hedges⟩ := ready_mem.1 hi
    have hLi : L[i]? = some false := by
      cases hb : L[i]? with
      | none => rw [Array.getElem?_eq_none_iff] at hb; have := hs.size; omega
      | some b => rw [Array.getD_eq_getD_getElem?, hb] at hfalse; simp only [Option.getD_some] at hfalse; rw [hfalse]
    have hnot : ¬ Lst L i := by rw [lst_iff, hLi]; simp
    have hsL : i < L.size := by rw [hs.size]; exact hsz
    have hcnt : cntF (L.setIfInBounds i true).toList ≤ fuel := by
      have := cntF_set L.toList i (by rw [Array.getElem?_toList]; exact hLi)
      rw [Array.toList_setIfInBounds]
      omega
    have hanc : ∀ b, C.anc i b = true → Lst L b := fun b hb => anc_lst h hs.down i b o ho hedges hb
    have hancL : ∀ k b, k < ops.size → Lst L k → C.anc k b = true → Lst L b := fun k b hk hl hb => anc_lst h hs.down k b ops[k] (Array.getElem?_eq_getElem hk) (hs.down k _ (Array.getElem?_eq_getElem hk) hl) hb
    have hdown : Down ops (L.setIfInBounds i true) := by
      intro k o' ho' hk e he hb
      rw [lst_set hsL] at hk ⊢
      rcases hk with rfl | hk
      · rw [ho] at ho'; cases ho'; exact .inr (hedges e he hb)
      · exact .inr (hs.down k o' ho' hk e he hb)
    unfold wpOp
    rw [ho]
    simp only
    have hrole : ∃ ro, C.roles[i]? = some ro := ⟨_, List.getElem?_eq_getElem (by rw [h.size]; exact hsz)⟩
    obtain ⟨ro, hro⟩ := hrole
    -- slots that i may read are filled as in S
    have hread : ∀ s, okRead C i s = true → σ.get s = S.get s := by
      intro s hs'
      refine hs.agree s fun k o' lo hi hk hkr hds => ?_
      obtain ⟨_, _, ⟨d1, hd1, hD1⟩, _, _⟩ := h.fn k o' lo hi hk hkr
      rw [hds] at hd1; cases hd1
      unfold okRead at hs'
      rw [hD1] at hs'
      exact hanc k hs'
    cases ro with
    | fn lo hi =>
      obtain ⟨hlh, hhm, ⟨d, hd, hD⟩, hlow, hhigh⟩ := h.fn i o lo hi ho hro
      have hlo : lo ≤ j := by
        rcases Nat.lt_or_ge j lo with hlt | hge
        · exfalso
          obtain ⟨w1, hw1, hw2⟩ := hlow j hlt
          have := (hs.wrs j w1 hw1).1 (hanc w1 hw2)
          omega
        · exact hge
      have hhi : j ≤ hi := by
        rcases Nat.lt_or_ge hi j with hlt | hge
        · exfalso
          have hjm : j ≤ m := by have := hs.count; omega
          obtain ⟨w1, hw1, hw2⟩ := hhigh (by omega)
          have hl := (hs.wrs hi w1 hw1).2 hlt
          have hsw : w1 < ops.size := by
            have := h.ws hi w1 hw1
            have := (List.getElem?_eq_some_iff.1 this).1
            rw [h.size] at this; exact this
          exact hnot (hancL w1 i hsw hl hw2)
        · exact hge
      obtain ⟨he, hrd⟩ := hs.ph.eff i o d lo hi ho hro hd hlo hhi
      have hag : Agree (rdO S ops o) S σ := fun s hs' => hread s (hrd s hs')
      have he' : stepEff P E N ops σ o = some (effPut d (S.get d)) := by rw [stepEff_fr hag, he]
      refine step_ok hE hrel (stepOp_eff he') ?_
      intro tm' w' hrel'
      refine ih _ j S rest _ tm' w' hcnt ?_ hrel'
      have hnod : ∀ s, (∀ (k : Nat) (o' : Oper) (lo hi : Nat), ops[k]? = some o' → C.roles[k]? = some (.fn lo hi) → o'.dst = some s → Lst (L.setIfInBounds i true) k) → d ∉ rootsL (S.get s).cs := by
        intro s hfill hmem
        obtain ⟨g, hg1, hg2⟩ := hs.ph.roots i o d lo hi s ho hro hd hlo hhi hmem
        obtain ⟨o', lo', hi', hg3, hg4, hg5⟩ := h.filled s g hg1
        have hl := hfill g o' lo' hi' hg3 hg4 hg5
        have hgs : g < ops.size := (Array.getElem?_eq_some_iff.1 hg3).1
        rw [lst_set hsL] at hl
        rcases hl with rfl | hl
        · have := anc_lt h g g hgs hg2; omega
        · exact hnot (hancL g i hgs hl hg2)
      refine ⟨by simpa using hs.size, hdown, ?_, hs.ph, hs.tail, hs.plan, hs.count, ?_⟩
      · intro k w1 hw1
        rw [lst_set hsL]
        constructor
        · rintro (rfl | hl)
          · have := h.ws k w1 hw1; rw [hro] at this; cases this
          · exact (hs.wrs k w1 hw1).1 hl
        · exact fun q => .inr ((hs.wrs k w1 hw1).2 q)
      · intro s hfill
        have hkill := kill_own (hnod s hfill)
        show (St.app σ (effPut d (S.get d))).get s = S.get s
        have happ : (St.app σ (effPut d (S.get d))).get s = ((σ.put d (S.get d)).get s).kill [(d, [])] := by
          show ((σ.put d (S.get d)).kill [(d, [])]).get s = _
          rw [get_kill]
        rw [happ, get_put]
        by_cases hsd : s = d
        · subst hsd; rw [if_pos rfl]; exact hkill
        · rw [if_neg hsd]
          rw [hs.agree s fun k o' lo' hi' hk hkr hds => ?_]
          · exact hkill
          · have hl := hfill k o' lo' hi' hk hkr hds
            rw [lst_set hsL] at hl
            rcases hl with rfl | hl
            · rw [ho] at hk; cases hk
              rw [hd] at hds; cases hds
              exact absurd rfl hsd
            · exact hl
    | wr k =>
      obtain ⟨hk1, hkm⟩ := h.wr i k hro
      have hkj : j ≤ k := by
        rcases Nat.lt_or_ge k j with hlt | hge
        · exact absurd ((hs.wrs k i hk1).2 hlt) hnot
        · exact hge
      have hjk : k = j := by
        rcases Nat.lt_or_ge j k with hlt | hge
        · exfalso
          obtain ⟨q, rfl⟩ : ∃ q, k = q + 1 := ⟨k - 1, by omega⟩
          have hqm : q < C.ws.length := by rw [h.len]; omega
          have hw := List.getElem?_eq_getElem hqm
          have := h.chain q _ i hw hk1
          have := (hs.wrs q _ hw).1 (hanc _ this)
          omega
        · omega
      subst hjk
      rcases hs.tail with ⟨hnil, _⟩ | ⟨hne, i', o', e, hi', ho', he, hrd, hrun⟩
      · have := hs.count; rw [hnil] at this; simp at this; omega
      · rw [hk1] at hi'; cases hi'
        rw [ho] at ho'; cases ho'
        have hag : Agree (rdO S ops o) S σ := fun s hs' => hread s (hrd s hs')
        have he' : stepEff P E N ops σ o = some e := by rw [stepEff_fr hag, he]
        refine step_ok hE hrel (stepOp_eff he') ?_
        intro tm' w' hrel'
        cases rest with
        | nil => exact absurd rfl hne
        | cons pl rest =>
          obtain ⟨S1, hph, htail⟩ := drawRun_cons hrun
          obtain ⟨hok, hkeep⟩ := phase_ok h (hs.plan 0 pl rfl) hph
          refine ih _ (k + 1) S1 rest _ tm' w' hcnt ?_ hrel'
          refine ⟨by simpa using hs.size, hdown, ?_, hok, htail, ?_, ?_, ?_⟩
          · intro q w1 hw1
            rw [lst_set hsL]
            constructor
            · rintro (rfl | hl)
              · have h1 := h.ws q w1 hw1
                rw [hro] at h1
                simp only [Option.some.injEq, Role.wr.injEq] at h1
                omega
              · have := (hs.wrs q w1 hw1).1 hl; omega
            · intro hq
              rcases Nat.lt_or_ge q k with hlt | hge
              · exact .inr ((hs.wrs q w1 hw1).2 hlt)
              · have : q = k := by omega
                subst this
                rw [hk1] at hw1; cases hw1
                exact .inl rfl
          · intro q pl' hq'
            have := hs.plan (q + 1) pl' (by simpa using hq')
            rwa [show k + 1 + (q + 1) = k + 1 + 1 + q by omega] at this
          · have := hs.count; simp at this; omega
          · intro s hfill
            have hnotfresh : ∀ (i1 : Nat) (o1 : Oper) (hi1 : Nat), ops[i1]? = some o1 → C.roles[i1]? = some (.fn (k + 1 + 0) hi1) → o1.dst ≠ some s := by
              intro i1 o1 hi1 hi1o hi1r hds
              have hl := hfill i1 o1 _ hi1 hi1o hi1r hds
              rw [lst_set hsL] at hl
              rcases hl with rfl | hl
              · rw [hro] at hi1r; cases hi1r
              · obtain ⟨_, _, _, hlow, _⟩ := h.fn i1 o1 _ hi1 hi1o hi1r
                obtain ⟨w1, hw1, hw2⟩ := hlow k (by omega)
                rw [hk1] at hw1; cases hw1
                exact hnot (hancL i1 i (Array.getElem?_eq_some_iff.1 hi1o).1 hl hw2)
            rw [hkeep s hnotfresh]
            refine app_congr (hs.agree s fun k' o' lo' hi' hk' hkr hds => ?_) e
            have hl := hfill k' o' lo' hi' hk' hkr hds
            rw [lst_set hsL] at hl
            rcases hl with rfl | hl
            · rw [hro] at hkr; cases hkr
            · exact hl

/-- A drawn region. -/
theorem draw_region {P : Program} {E : Env} (hE : EnvOk P E) (hm : P.follows .mixedOrders = true) {N id : Nat} (h : Static ops C m) {plan : List (List Nat × List Nat)} (hlen : plan.length = m + 1) (hplan : ∀ (q : Nat) pl, plan[q]? = some pl → PlanAt C q pl)
    {w0 : W0} {w : World} {ds : List Deferred} {Q : Exit → Act → World → Prop} {σ σ' : St Unit} {tm : Array Value} (hrel : Rel w0 N σ tm w) (hs : drawRun P E N ops C 0 plan σ = some σ')
    (hq : ∀ σF tm' w', (∀ s, σF.get s = σ'.get s) → Rel w0 N σF tm' w' → Q .normal ⟨tm', ds⟩ w') : (Code.region id ops true).wp P Q ⟨tm, ds⟩ w := by
  refine wp_region_any hm ?_
  cases plan with
  | nil => simp at hlen
  | cons pl rest =>
    obtain ⟨S, hph, htail⟩ := drawRun_cons hs
    obtain ⟨hok, hkeep⟩ := phase_ok h (hplan 0 pl rfl) hph
    have hL : ∀ i, ¬ Lst (Array.replicate ops.size false) i := by
      intro i hi
      rw [lst_iff, Array.getElem?_replicate] at hi
      split at hi <;> simp at hi
    refine draw_any hE h hq ops.size _ 0 S rest σ tm _ ?_ ?_ ?_
    · rw [Array.toList_replicate, cntF_rep]; exact Nat.le_refl _
    · refine ⟨by simp, fun i o _ hl => absurd hl (hL i), fun k w _ => ⟨fun hl => absurd hl (hL w), fun hk => by omega⟩, hok, htail, ?_, by simp at hlen; omega, ?_⟩
      · intro q pl' hq'
        have := hplan (q + 1) pl' (by simpa using hq')
        rwa [show 0 + 1 + q = q + 1 by omega]
      · intro s hfill
        refine (hkeep s fun i o hi ho hr hd => ?_).symm
        exact hL i (hfill i o 0 hi ho hr hd)
    · obtain ⟨Γ, h1, h2, h3⟩ := hrel
      exact ⟨Γ, h1, h2.world ⟨rfl, rfl, rfl, Nat.le_refl _, fun _ _ => rfl⟩ (fun _ _ _ => rfl) (fun _ _ => rfl), h3⟩
end
end Go.Proofs.Ytnmocjhpbobahaa.L
namespace Go.Proofs.Ytnmocjhpbobahaa.L
open Go Go.RowKit

section
variable {α : Type}
def sameHead : Cell α → Cell α → Bool
  | .sl true sz _ r, .sl true sz' _ r' => sz == sz' && r.length == r'.length
  | .bx true _ r, .bx true _ r' => r.length == r'.length
  | _, _ => false
/-- The tree that was lent (slot 0), behind the results. -/
def backOf (σ : St α) (d : Pend α) (y : Cell α) : Option (Cell α) :=
  if ((σ.pend d).get 0).k = .one then match ((σ.pend d).get 0).cs with
    | [x] => match x.place 0 0 with
      | some (r, p) => match takeAt σ d r p with
        | some z => if sameHead y z.1 then some z.1 else none
        | none => none
      | none => none
    | _ => none else none
theorem sameHead_erase (y z : Cell α) : sameHead y.erase z.erase = sameHead y z := by
  cases y with
  | sl o sz a r => cases o <;> cases z with
    | sl o' sz' a' r' => cases o' <;> simp [Cell.erase, sameHead, eraseL_eq]
    | bx o' a' r' => cases o' <;> simp [Cell.erase, sameHead]
    | _ => simp [Cell.erase, sameHead]
  | bx o a r => cases o <;> cases z with
    | sl o' sz' a' r' => cases o' <;> simp [Cell.erase, sameHead]
    | bx o' a' r' => cases o' <;> simp [Cell.erase, sameHead, eraseL_eq]
    | _ => simp [Cell.erase, sameHead]
  | _ => cases z <;> simp [Cell.erase, sameHead]
theorem pend_erase (σ : St α) (d : Pend α) : σ.erase.pend d.erase = (σ.pend d).erase := by
  unfold St.pend
  rw [kill_erase, putAll_erase]
  simp [Pend.erase, eraseCh]
theorem backOf_erase (σ : St α) (d : Pend α) (y : Cell α) : backOf σ.erase d.erase y.erase = (backOf σ d y).map Cell.erase := by
  unfold backOf
  rw [pend_erase, L.get_erase]
  obtain ⟨k, cs, hv⟩ : ∃ k cs, (σ.pend d).get 0 = ⟨k, cs⟩ := ⟨_, _, rfl⟩
  have hv2 : ((σ.pend d).get 0).erase = ⟨k, cs.map SC.erase⟩ := by rw [hv]; rfl
  rw [hv2, hv]
  by_cases hk : k = .one
  case neg => simp only [if_neg hk]; rfl
  simp only [if_pos hk]
  cases cs with
  | nil => rfl
  | cons x l =>
    cases l with
    | cons _ _ => rfl
    | nil =>
      simp only [List.map_cons, List.map_nil, place_erase]
      cases x.place 0 0 with
      | none => rfl
      | some rp =>
        obtain ⟨r, p⟩ := rp
        simp only
        rw [takeAt_erase]
        cases takeAt σ d r p with
        | none => rfl
        | some z =>
          simp only [Option.map_some, eraseTk, sameHead_erase]
          split <;> rfl
end
def lentSV (z : Cell Unit) (r : SV Unit) : SV Unit := ⟨r.k, .c z :: r.cs⟩
/-- A function's answer, by the trees, where it is lent its first argument. -/
def funRunL (P : Program) (reg : FuncId → Nat → Reg) (n : Nat) (f : FuncId) (y : Cell Unit) (as : List (SV Unit)) : Option (SV Unit) := match P.funcs[f]? with
  | some fn => match fn.body with
    | some c => if (as.length < fn.ntmps ∧ fn.ntmps < zeroN) ∧ (fn.name == "runtime.NumGoroutine") = false then match run (reg f (fn.ntmps + zeroN)) n c (argsSt 0 (one (.c y) :: as)) with
      | some (e, σ) => if e = .normal ∨ e = .ret then match resAll P σ pend0 fn.results.toList with
        | some (xs, d) => match backOf σ d y with
          | some z => some (lentSV z (resSV xs))
          | none => none
        | none => none else none
      | none => none else none
    | none => none
  | none => none
theorem place_val {Γ : St Gh} {s r : Nat} {p : List Nat} {x : SC Gh} {y : GC} {u : Value} (hk : (Γ.get s).k = .one) (hcs : (Γ.get s).cs = [x]) (hrel : svRel Γ (Γ.get s) u) (hpl : x.place s 0 = some (r, p)) (hg : (Γ.get r).getP p = some y) (ho : y.isOwn = true) : u = y.val := by
  obtain ⟨us, u1, u2⟩ := hrel
  rw [hcs] at u1
  obtain ⟨v, hv⟩ : ∃ v, us = [v] := by
    cases us with
    | nil => simp [rels] at u1
    | cons v us => cases us with
      | nil => exact ⟨v, rfl⟩
      | cons _ _ => simp [rels] at u1
  subst hv
  have hu1 := u1.1
  rw [hk] at u2
  rw [u2]
  show v = y.val
  cases x with
  | c z =>
    simp only [SC.place] at hpl
    split at hpl
    · next hzo =>
      simp only [Option.some.injEq, Prod.mk.injEq] at hpl
      obtain ⟨rfl, rfl⟩ := hpl
      have : (Γ.get s).getP [0] = some z := by simp [SV.getP, hcs, Cell.getC]
      rw [hg] at this
      obtain rfl := Option.some.inj this
      rcases hu1 with hu1 | hu1
      · rw [isDead_own ho] at hu1; cases hu1
      · exact hu1
    · cases hpl
  | view r' p' =>
    simp only [SC.place, Option.some.injEq, Prod.mk.injEq] at hpl
    obtain ⟨rfl, rfl⟩ := hpl
    obtain ⟨y', v1, _, v3⟩ := hu1
    rw [hg] at v1
    obtain rfl := Option.some.inj v1
    exact v3
  | _ => simp [SC.place] at hpl
/-- A tree with the head of another. -/
theorem same_tree {g z : GC} (hs : sameHead g z = true) (hv : z.val = g.val) : z.row.length = g.row.length ∧ (g.withRow z.row).erase = z.erase ∧ foot (g.withRow z.row) = foot z ∧ ∀ w Z, holds w Z z → holds w Z (g.withRow z.row) := by
  cases g with
  | sl o sz gh r =>
    cases o with
    | false => cases z <;> simp [sameHead] at hs
    | true =>
      cases z with
      | sl o' sz' gh' r' =>
        cases o' with
        | false => simp [sameHead] at hs
        | true =>
          simp only [sameHead, Bool.and_eq_true, beq_iff_eq] at hs
          obtain ⟨rfl, hl⟩ := hs
          simp only [Cell.val, Value.slice.injEq] at hv
          obtain ⟨h1, _, h3⟩ := hv
          obtain ⟨a, cap⟩ := gh
          obtain ⟨a', cap'⟩ := gh'
          simp only at h1 h3
          subst h1 h3
          exact ⟨hl.symm, rfl, rfl, fun _ _ h => h⟩
      | _ => simp [sameHead] at hs
  | bx o gh r =>
    cases o with
    | false => cases z <;> simp [sameHead] at hs
    | true =>
      cases z with
      | bx o' gh' r' =>
        cases o' with
        | false => simp [sameHead] at hs
        | true =>
          simp only [sameHead, beq_iff_eq] at hs
          simp only [Cell.val, Value.pointer.injEq] at hv
          obtain ⟨a, cap⟩ := gh
          obtain ⟨a', cap'⟩ := gh'
          simp only at hv
          subst hv
          refine ⟨hs.symm, by simp [Cell.withRow, Cell.row, Cell.erase], by simp [Cell.withRow, Cell.row, foot, blockOf], fun w Z h => ?_⟩
          obtain ⟨⟨h1, h1'⟩, h2, h3⟩ := h
          exact ⟨⟨h1, h1'⟩, h2, h3⟩
      | _ => simp [sameHead] at hs
  | _ => simp [sameHead] at hs

/-- THE TREES' ANSWER IS THE FUNCTION's. -/
theorem goodL_of_run {P : Program} {reg : FuncId → Nat → Reg} {n : Nat} {f : FuncId} {y : Cell Unit} {as : List (SV Unit)} {R : SV Unit} {T : Nat → Array Oper → Bool → Bool} (hR : ∀ N, RegOk P N (reg f N) T) (hT : ∀ fn c, P.funcs[f]? = some fn → fn.body = some c → codeAll T c = true) (h : funRunL P reg n f y as = some R) : GoodL P f y as R := by
  unfold funRunL at h
  split at h
  · next fn hf =>
    split at h
    · next c hc =>
      split at h
      · next hlen =>
        split at h
        · next e σ hrun =>
          split at h
          · next he =>
            split at h
            · next xs d hxs =>
              split at h
              · next z hz =>
                simp only [Option.some.injEq] at h
                subst h
                refine ⟨⟨fn, hf, by rw [hc]; rfl, hlen.2⟩, ?_⟩
                intro w g gs hy hgo hga hgs hgh hgn hgf
                refine calls_of_wp hf hc ?_
                have hsz : gs.length < fn.ntmps := by have := hlen.1.1; rw [← hgs] at this; simpa using this
                have hargs : (g.val :: gs.map fun g => pack g.1 (g.2.map Cell.val)) = (((.one, [g]) : Kd × List GC) :: gs).map fun g => pack g.1 (g.2.map Cell.val) := rfl
                have hnz : ¬ fn.ntmps + zeroN < zeroN := by omega
                have hrel : Rel ⟨w, foot g, g.val⟩ (fn.ntmps + zeroN) (argsSt 0 (one (.c y) :: as)) ((g.val :: gs.map fun g => pack g.1 (g.2.map Cell.val)).toArray ++ Array.replicate (fn.ntmps - (g.val :: gs.map fun g => pack g.1 (g.2.map Cell.val)).toArray.size) undef) w := by
                  refine ⟨argsSt 0 ((((.one, [g]) : Kd × List GC) :: gs).map fun g => (⟨g.1, g.2.map .c⟩ : SV Gh)), ?_, ?_, ?_, fun _ => by rw [Array.getD_eq_getD_getElem?, Array.getElem?_append_left (by simp)]; simp⟩
                  · rw [argsSt_erase, ← hgs, ← hy]
                    congr 1
                    simp only [List.map_cons, List.map_map, List.map_nil]
                    congr 1
                    refine List.map_congr_left fun g _ => ?_
                    simp [SV.erase, bare, SC.erase]
                  · have := args_inv (foot g) g.val (((.one, [g]) : Kd × List GC) :: gs) (fn.ntmps - (g.val :: gs.map fun g => pack g.1 (g.2.map Cell.val)).toArray.size) (fun x hx => by
                      rcases List.mem_cons.1 hx with rfl | hx
                      · exact ⟨hgh, trivial⟩
                      · exact (hgf x hx).1) (fun i x hx hi => by
                      cases i with
                      | zero => exact absurd rfl hi
                      | succ i =>
                        simp only [List.getElem?_cons_succ] at hx
                        exact (hgf x (List.mem_of_getElem? hx)).2.1) (fun x hx => by
                      simp only [List.getElem?_cons_zero, Option.some.injEq] at hx
                      subst hx
                      simpa [footL] using hgn)
                    exact this
                  · unfold tmN
                    rw [if_neg hnz]
                    simp; omega
                refine run_ok (hR (fn.ntmps + zeroN)) n c _ σ e _ w _ (hT fn c hf hc) hrun hrel ?_
                intro tm' w' ⟨Γ, hΓ, hI, _, hz0⟩
                have hres := resAll_erase P Γ fn.results.toList pend0
                rw [hΓ, pend0_erase, hxs] at hres
                cases hx : resAll P Γ pend0 fn.results.toList with
                | none => rw [hx] at hres; cases hres
                | some q =>
                  obtain ⟨ys, d'⟩ := q
                  rw [hx] at hres
                  simp only [Option.map_some, Option.some.injEq, Prod.mk.injEq] at hres
                  obtain ⟨rfl, rfl⟩ := hres
                  obtain ⟨b1, b2, b3⟩ := resAll_ok hI fn.results.toList pend0 d' [] ys (pend0_inv hI) (pend0_back Γ) hx
                  rw [List.append_nil] at b1
                  obtain ⟨k, hk1, hk2⟩ := @resSV_map ys
                  have hval := results_eq fn tm' w' P b2
                  rw [← hk2 fun x hx => (b3 x hx).2] at hval
                  have hbk := backOf_erase Γ d' g
                  rw [hΓ, hy, hz] at hbk
                  cases hb : backOf Γ d' g with
                  | none => rw [hb] at hbk; cases hbk
                  | some z' =>
                    rw [hb] at hbk
                    simp only [Option.map_some, Option.some.injEq] at hbk
                    subst hbk
                    unfold backOf at hb
                    split at hb
                    · next hk =>
                      split at hb
                      · next x hcs =>
                        split at hb
                        · next r p hpl =>
                          split at hb
                          · next zz htk =>
                            obtain ⟨zz, d2⟩ := zz
                            split at hb
                            · next hsh =>
                              simp only [Option.some.injEq] at hb
                              subst hb
                              simp only at hsh
                              obtain ⟨c1, _, c3, c4, _⟩ := take_ok b1 htk
                              have hzv : zz.val = g.val := by
                                rw [← place_val hk hcs (b1.rel 0) hpl c3 c4]
                                exact hz0 hnz
                              obtain ⟨s1, s2, s3, s4⟩ := same_tree hsh hzv
                              have hpool : holds w' ⟨w.heap.size, foot g⟩ zz ∧ holdsL w' ⟨w.heap.size, foot g⟩ (ys.flatMap fun x => x.2) := c1.pool
                              have hnod := c1.nodP
                              have hfin : (⟨tm', []⟩ : Act).defers = [] ∧ ∃ v, (results fn tm').run P w' = .ok v w' ∧ ∃ k l cs, bare k (g.withRow l :: cs) = lentSV zz.erase (resSV (ys.map fun x => (x.1, x.2.map Cell.erase))) ∧ l.length = g.row.length ∧ Ending.returned v = .returned (pack k (cs.map Cell.val)) ∧ Bel ⟨w.heap.size, foot g⟩ w w' ∧
                                  holdsL w' ⟨w.heap.size, foot g⟩ (g.withRow l :: cs) ∧ (footL (g.withRow l :: cs)).Nodup ∧ ∀ c ∈ cs, c.isDead = false := by
                                refine ⟨rfl, _, hval, k, zz.row, (ys.flatMap fun (x : Kd × List GC) => x.2), ?_, s1, rfl, b1.below, ⟨s4 _ _ hpool.1, hpool.2⟩, ?_, ?_⟩
                                · rw [hk1]
                                  simp [lentSV, bare, s2]
                                · simp only [footL] at hnod ⊢
                                  rw [s3]; exact hnod
                                · intro c hc'
                                  obtain ⟨x, hx1, hx2⟩ := List.mem_flatMap.1 hc'
                                  exact (b3 x hx1).1 c hx2
                              rcases he with rfl | rfl <;> exact hfin
                            · cases hb
                          · cases hb
                        · cases hb
                      · cases hb
                    · cases hb
              · cases h
            · cases h
          · cases h
        · cases h
      · cases h
    · cases h
  · cases h
end Go.Proofs.Ytnmocjhpbobahaa.L
namespace Go.Proofs.Ytnmocjhpbobahaa.L
open Go Go.RowKit

section
variable {α : Type}
/-- The slots of K, in this order; the rest is forgotten. -/
def St.pick (K : List Nat) (σ : St α) : St α := K.map fun s => (s, (σ.get s).only K)
theorem lookup_map_self {β : Type} (f : Nat → β) (t : Nat) : ∀ K : List Nat, (K.map fun s => (s, f s)).lookup t = if K.contains t then some (f t) else none
  | [] => rfl
  | s :: K => by
    simp only [List.map_cons, List.lookup, List.contains_cons]
    by_cases h : t = s
    · subst h; simp
    · have hb : (t == s) = false := by simpa using h
      rw [hb, lookup_map_self f t K]
      simp
theorem get_pick (K : List Nat) (σ : St α) (t : Nat) : (St.pick K σ).get t = if K.contains t then (σ.get t).only K else SV.dead := by
  unfold St.get St.pick
  rw [lookup_map_self (fun s => (St.get σ s).only K)]
  split
  · next v hv =>
    split at hv
    · next hk => rw [if_pos hk]; simp only [Option.some.injEq] at hv; exact hv.symm
    · cases hv
  · next hv =>
    split at hv
    · cases hv
    · next hk => rw [if_neg hk]
theorem onlySV_erase (K : List Nat) (v : SV α) : (v.only K).erase = v.erase.only K := by
  have hsc : ∀ x : SC α, (SC.only K x).erase = SC.only K x.erase := by
    intro x
    cases x with
    | view r p =>
      by_cases hr : K.contains r = true
      · simp only [SC.only, SC.erase, if_pos hr]
      · simp only [SC.only, SC.erase, if_neg hr]
    | win r p lo n f =>
      by_cases hr : K.contains r = true
      · simp only [SC.only, SC.erase, if_pos hr]
      · simp only [SC.only, SC.erase, if_neg hr]
    | ref r p off m =>
      by_cases hr : K.contains r = true
      · simp only [SC.only, SC.erase, if_pos hr]
      · simp only [SC.only, SC.erase, if_neg hr]
    | _ => rfl
  simp [SV.only, SV.erase, hsc]
theorem pick_erase (K : List Nat) (σ : St α) : (St.pick K σ).erase = St.pick K σ.erase := by
  unfold St.pick St.erase
  rw [List.map_map]
  refine List.map_congr_left fun s _ => ?_
  simp only [Function.comp, onlySV_erase]
  have := get_erase σ s
  unfold St.erase at this
  rw [this]
theorem pick_congr {K : List Nat} {σ σ' : St α} (h : ∀ s, σ'.get s = σ.get s) : St.pick K σ' = St.pick K σ := by
  unfold St.pick
  exact List.map_congr_left fun s _ => by rw [h s]
end
theorem Rel.pick {w0 : W0} {w : World} {N : Nat} {σ : St Unit} {tm : Array Value} (h : Rel w0 N σ tm w) (K : List Nat) : Rel w0 N (St.pick K σ) tm w := by
  obtain ⟨Γ, h1, h2, h3⟩ := h
  exact ⟨St.pick K Γ, by rw [pick_erase, h1], (h2.only K).congr (fun s => by rw [get_pick, get_only]), h3⟩

/-! ### the shape of a region -/
def maskOf (A : List Nat) (l : List Edge) : Nat → Nat := l.foldl fun s e => if Region.binds .any e = true then s ||| (2 ^ e.on ||| A.getD e.on 0) else s
theorem mask_bit (A : List Nat) (b : Nat) : ∀ (l : List Edge) (s : Nat), (maskOf A l s).testBit b = true → s.testBit b = true ∨ ∃ e ∈ l, Region.binds .any e = true ∧ (b = e.on ∨ (A.getD e.on 0).testBit b = true)
  | [], s, h => .inl h
  | e :: l, s, h => by
    have h' : (maskOf A l (if Region.binds .any e = true then s ||| (2 ^ e.on ||| A.getD e.on 0) else s)).testBit b = true := h
    rcases mask_bit A b l _ h' with h1 | ⟨e', h1, h2⟩
    · split at h1
      · next hb =>
        rw [Nat.testBit_or, Nat.testBit_or, Bool.or_eq_true, Bool.or_eq_true, Nat.testBit_two_pow] at h1
        rcases h1 with h1 | h1 | h1
        · exact .inl h1
        · exact .inr ⟨e, by simp, hb, .inl (by simpa [eq_comm] using h1)⟩
        · exact .inr ⟨e, by simp, hb, .inr h1⟩
      · exact .inl h1
    · exact .inr ⟨e', by simp [h1], h2⟩

def ancAt (C : Cert) (i : Nat) : Option Nat → Bool
  | some w => C.anc i w
  | none => false
def opOk (ops : Array Oper) (C : Cert) (m i : Nat) (o : Oper) (r : Role) : Bool :=
  o.after.toList.all (fun e => !Region.binds .any e || decide (e.on < i)) && decide (C.A.getD i 0 = maskOf C.A o.after.toList 0) &&
  match r with
  | .fn lo hi => decide (lo ≤ hi) && decide (hi ≤ m) && (match o.dst with
    | some d => decide (C.D.lookup d = some i)
    | none => false) && (List.range lo).all (fun k => ancAt C i C.ws[k]?) && (decide (m ≤ hi) || (match C.ws[hi]? with
      | some w => C.anc w i
      | none => false)) && (List.range C.roles.length).all (fun k => match C.roles[k]? with
        | some (.fn lo' _) => !C.anc i k || decide (lo' ≤ lo)
        | _ => true)
  | .wr k => decide (C.ws[k]? = some i) && decide (k < m)
def opsOk (ops : Array Oper) (C : Cert) (m : Nat) : Nat → List Oper → List Role → Bool
  | _, [], [] => true
  | i, o :: l, r :: rs => opOk ops C m i o r && opsOk ops C m (i + 1) l rs
  | _, _, _ => false
def wsOk (C : Cert) (m : Nat) : Bool := decide (C.ws.length = m) && (List.range m).all (fun k => (match C.ws[k]? with
    | some w => (match C.roles[w]? with
      | some (.wr k') => decide (k' = k)
      | _ => false)
    | none => false) && (match C.ws[k]?, C.ws[k + 1]? with
    | some w, some w' => C.anc w' w
    | _, _ => true))
def dOk (ops : Array Oper) (C : Cert) : Bool := C.D.all fun x => match ops[x.2]?, C.roles[x.2]? with
  | some o, some (.fn _ _) => decide (o.dst = some x.1)
  | _, _ => false
def freshL (C : Cert) (j : Nat) : List Nat := (List.range C.roles.length).filter fun i => match C.roles[i]? with
  | some (.fn lo _) => decide (lo = j)
  | _ => false
def againL (C : Cert) (j : Nat) : List Nat := (List.range C.roles.length).filter fun i => match C.roles[i]? with
  | some (.fn lo hi) => decide (lo < j) && decide (j ≤ hi)
  | _ => false
def planOk (C : Cert) (plan : List (List Nat × List Nat)) (m : Nat) : Bool := decide (plan = (List.range (m + 1)).map fun j => (freshL C j, againL C j))
def staticB (ops : Array Oper) (C : Cert) (plan : List (List Nat × List Nat)) : Bool :=
  opsOk ops C C.ws.length 0 ops.toList C.roles && wsOk C C.ws.length && dOk ops C && planOk C plan C.ws.length

theorem opsOk_len {ops : Array Oper} {C : Cert} {m : Nat} : ∀ (l : List Oper) (rs : List Role) (i : Nat), opsOk ops C m i l rs = true → l.length = rs.length
  | [], [], _, _ => rfl
  | o :: l, r :: rs, i, h => by simp only [opsOk, Bool.and_eq_true] at h; simp [opsOk_len l rs (i + 1) h.2]
  | [], r :: rs, _, h => by simp [opsOk] at h
  | o :: l, [], _, h => by simp [opsOk] at h
theorem opsOk_get {ops : Array Oper} {C : Cert} {m : Nat} : ∀ (l : List Oper) (rs : List Role) (i k : Nat) (o : Oper) (r : Role), opsOk ops C m i l rs = true → l[k]? = some o → rs[k]? = some r → opOk ops C m (i + k) o r = true
  | [], _, _, k, o, r, _, h, _ => by simp at h
  | o' :: l, [], _, _, _, _, h, _, _ => by simp [opsOk] at h
  | o' :: l, r' :: rs, i, 0, o, r, h, h1, h2 => by
    simp only [opsOk, Bool.and_eq_true] at h
    simp only [List.getElem?_cons_zero, Option.some.injEq] at h1 h2
    subst h1; subst h2
    exact h.1
  | o' :: l, r' :: rs, i, k + 1, o, r, h, h1, h2 => by
    simp only [opsOk, Bool.and_eq_true] at h
    have := opsOk_get l rs (i + 1) k o r h.2 (by simpa using h1) (by simpa using h2)
    rwa [show i + 1 + k = i + (k + 1) by omega] at this
theorem lookup_mem {β : Type} {s : Nat} {v : β} : ∀ {l : List (Nat × β)}, l.lookup s = some v → (s, v) ∈ l
  | [], h => by cases h
  | (t, u) :: l, h => by
    simp only [List.lookup] at h
    split at h
    · next he =>
      simp only [Option.some.injEq] at h
      have : s = t := by simpa using he
      subst this; subst h; simp
    · exact List.mem_cons_of_mem _ (lookup_mem h)

theorem static_ok {ops : Array Oper} {C : Cert} {plan : List (List Nat × List Nat)} (h : staticB ops C plan = true) : Static ops C C.ws.length ∧ plan.length = C.ws.length + 1 ∧ ∀ (q : Nat) pl, plan[q]? = some pl → PlanAt C q pl := by
  simp only [staticB, Bool.and_eq_true] at h
  obtain ⟨⟨⟨h1, h2⟩, h3⟩, h4⟩ := h
  have hlen : C.roles.length = ops.size := by have := opsOk_len _ _ _ h1; simpa using this.symm
  have hop : ∀ (i : Nat) (o : Oper) (r : Role), ops[i]? = some o → C.roles[i]? = some r → opOk ops C C.ws.length i o r = true := by
    intro i o r ho hr
    have := opsOk_get ops.toList C.roles 0 i o r h1 (by simpa using ho) hr
    rwa [Nat.zero_add] at this
  have hr : ∀ (i : Nat) (o : Oper), ops[i]? = some o → ∃ r, C.roles[i]? = some r := by
    intro i o ho
    exact ⟨_, List.getElem?_eq_getElem (by rw [hlen]; exact (Array.getElem?_eq_some_iff.1 ho).1)⟩
  simp only [wsOk, Bool.and_eq_true, decide_eq_true_eq, true_and] at h2
  rw [List.all_eq_true] at h2
  have hws : ∀ (k w : Nat), C.ws[k]? = some w → C.roles[w]? = some (.wr k) ∧ ∀ w', C.ws[k + 1]? = some w' → C.anc w' w = true := by
    intro k w hk
    have hlt := (List.getElem?_eq_some_iff.1 hk).1
    have := h2 k (List.mem_range.2 hlt)
    simp only [hk, Bool.and_eq_true] at this
    refine ⟨?_, ?_⟩
    · have q := this.1
      split at q
      · next k' hk' => rw [hk']; simp only [decide_eq_true_eq] at q; rw [q]
      · cases q
    · intro w' hw'
      have q := this.2
      rw [hw'] at q
      exact q
  refine ⟨⟨hlen, ?_, ?_, ?_, ?_, fun k w hk => (hws k w hk).1, fun k w w' hk hk' => (hws k w hk).2 w' hk', rfl, ?_, ?_⟩, ?_, ?_⟩
  · intro i o ho e he hb
    obtain ⟨r, hr⟩ := hr i o ho
    have := hop i o r ho hr
    simp only [opOk, Bool.and_eq_true] at this
    have := List.all_eq_true.1 this.1.1 e he
    simpa [hb] using this
  · intro i o b ho hb
    obtain ⟨r, hr⟩ := hr i o ho
    have := hop i o r ho hr
    simp only [opOk, Bool.and_eq_true, decide_eq_true_eq] at this
    have hm := this.1.2
    unfold Cert.anc at hb
    rw [hm] at hb
    rcases mask_bit C.A b _ _ hb with q | ⟨e, q1, q2, q3⟩
    · simp at q
    · exact ⟨e, q1, q2, q3⟩
  · intro i o lo hi ho hrole
    have := hop i o _ ho hrole
    simp only [opOk, Bool.and_eq_true, decide_eq_true_eq, Bool.or_eq_true] at this
    obtain ⟨_, ⟨⟨⟨⟨q1, q2⟩, q3⟩, q4⟩, q5⟩, _⟩ := this
    refine ⟨q1, q2, ?_, ?_, ?_⟩
    · split at q3
      · next d hd => exact ⟨d, hd, by simpa using q3⟩
      · cases q3
    · intro k hk
      have := List.all_eq_true.1 q4 k (List.mem_range.2 hk)
      unfold ancAt at this
      split at this
      · next w hw => exact ⟨w, hw, this⟩
      · cases this
    · intro hlt
      rcases q5 with q5 | q5
      · omega
      · split at q5
        · next w hw => exact ⟨w, hw, q5⟩
        · cases q5
  · intro i k hrole
    have hlt : i < ops.size := by rw [← hlen]; exact (List.getElem?_eq_some_iff.1 hrole).1
    have := hop i ops[i] _ (Array.getElem?_eq_getElem hlt) hrole
    simp only [opOk, Bool.and_eq_true, decide_eq_true_eq] at this
    exact this.2
  · intro i k lo hi lo' hi' hri hrk hanc
    have hlt : i < ops.size := by rw [← hlen]; exact (List.getElem?_eq_some_iff.1 hri).1
    have := hop i ops[i] _ (Array.getElem?_eq_getElem hlt) hri
    simp only [opOk, Bool.and_eq_true] at this
    obtain ⟨_, _, q6⟩ := this
    have := List.all_eq_true.1 q6 k (List.mem_range.2 (List.getElem?_eq_some_iff.1 hrk).1)
    simpa [hrk, hanc] using this
  · intro s g hg
    have := List.all_eq_true.1 h3 _ (lookup_mem hg)
    simp only at this
    split at this
    · next o lo hi ho hro => exact ⟨o, lo, hi, ho, hro, by simpa using this⟩
    · cases this
  · simp only [planOk, decide_eq_true_eq] at h4
    rw [h4]; simp
  · intro q pl hq
    simp only [planOk, decide_eq_true_eq] at h4
    rw [h4, List.getElem?_map] at hq
    cases hq' : (List.range (C.ws.length + 1))[q]? with
    | none => rw [hq'] at hq; cases hq
    | some q' =>
      have : q' = q := by
        have hlt := (List.getElem?_eq_some_iff.1 hq').1
        rw [List.getElem?_range (by simpa using hlt)] at hq'
        simpa using hq'.symm
      subst this
      rw [hq'] at hq
      simp only [Option.map_some, Option.some.injEq] at hq
      subst hq
      refine ⟨?_, ?_, ?_⟩
      · intro i
        simp only [freshL, List.mem_filter, List.mem_range]
        constructor
        · rintro ⟨_, h⟩
          split at h
          · next lo hi he => simp only [decide_eq_true_eq] at h; subst h; exact ⟨hi, he⟩
          · cases h
        · rintro ⟨hi, he⟩
          exact ⟨(List.getElem?_eq_some_iff.1 he).1, by rw [he]; simp⟩
      · exact List.Pairwise.filter _ List.pairwise_lt_range
      · intro i lo hi he h1 h2
        simp only [againL, List.mem_filter, List.mem_range]
        exact ⟨(List.getElem?_eq_some_iff.1 he).1, by rw [he]; simp [h1, h2]⟩

/-! ### tables -/
structure RC where
  keep : List Nat
  cert : Cert
  plan : List (List Nat × List Nat)
/-- In order; in any order with no writer. -/
abbrev RC.s (keep : List Nat) : RC := ⟨keep, ⟨[], [], [], []⟩, []⟩
def RC.d (keep A dsts : List Nat) : RC := ⟨keep, ⟨A, dsts.map fun _ => .fn 0 0, [], dsts.zipIdx⟩, [(List.range dsts.length, [])]⟩
def regOf (P : Program) (E : Env) (N : Nat) (tab : List (Nat × RC)) : Reg := fun id ops draw σ => match tab.lookup id with
  | some rc => if draw = true then match drawRun P E N ops rc.cert 0 rc.plan σ with
      | some σ' => some (St.pick rc.keep σ')
      | none => none
    else match seqL P E N ops ops.toList σ with
      | some σ' => some (St.pick rc.keep σ')
      | none => none
  | none => none
def tabT (tab : List (Nat × RC)) : Nat → Array Oper → Bool → Bool := fun id ops draw => !draw || match tab.lookup id with
  | some rc => staticB ops rc.cert rc.plan
  | none => true
theorem regOf_ok {P : Program} {E : Env} (hE : EnvOk P E) (hm : P.follows .mixedOrders = true) (N : Nat) (tab : List (Nat × RC)) : RegOk P N (regOf P E N tab) (tabT tab) := by
  intro w0 w id ops draw σ σ' tm ds Q hT hr hrel hq
  unfold regOf at hr
  unfold tabT at hT
  cases ht : tab.lookup id with
  | none => rw [ht] at hr; cases hr
  | some rc =>
    rw [ht] at hr hT
    simp only at hr hT
    cases draw with
    | true =>
      simp only [if_true, Bool.not_true, Bool.false_or] at hr hT
      split at hr
      · next σ1 h1 =>
        simp only [Option.some.injEq] at hr
        subst hr
        obtain ⟨a1, a2, a3⟩ := static_ok hT
        refine draw_region hE hm a1 a2 a3 hrel h1 ?_
        intro σF tm' w' hF hrel'
        have := hrel'.pick rc.keep
        rw [pick_congr hF] at this
        exact hq tm' w' this
      · cases hr
    | false =>
      simp only [Bool.false_eq_true, if_false] at hr
      split at hr
      · next σ1 h1 =>
        simp only [Option.some.injEq] at hr
        subst hr
        exact seq_region hE hrel h1 fun tm' w' h2 => hq tm' w' (h2.pick rc.keep)
      · cases hr

abbrev Tabs := List (Nat × List (Nat × RC))
def bodyAll (P : Program) (T : Nat → Array Oper → Bool → Bool) (f : FuncId) : Bool := match P.funcs[f]? with
  | some fn => match fn.body with
    | some c => codeAll T c
    | none => true
  | none => true
/-- All the drawn regions' shapes. -/
def tabsOk (P : Program) (tabs : Tabs) : Bool := P.follows .mixedOrders && tabs.all fun x => bodyAll P (tabT x.2) (x.1 % zeroN)
def fnRun (P : Program) (E : Env) (tabs : Tabs) (n : Nat) (f : FuncId) (as : List (SV Unit)) : Option (SV Unit) := match tabs.lookup f with
  | some t => funRun P (fun _ N => regOf P E N t) n f as
  | none => none
theorem tab_ok {P : Program} {tabs : Tabs} (ht : tabsOk P tabs = true) {g f : Nat} (hg : g % zeroN = f) {t : List (Nat × RC)} (hl : tabs.lookup g = some t) {fn : Func} {c : Code} (hf : P.funcs[f]? = some fn) (hc : fn.body = some c) : codeAll (tabT t) c = true := by
  simp only [tabsOk, Bool.and_eq_true] at ht
  have := List.all_eq_true.1 ht.2 _ (lookup_mem hl)
  simp only [hg, bodyAll, hf, hc] at this
  exact this
theorem fnRun_ok {P : Program} {E : Env} (hE : EnvOk P E) {tabs : Tabs} (ht : tabsOk P tabs = true) {n : Nat} {f : FuncId} {as : List (SV Unit)} {r : SV Unit} (hf : f < zeroN) (h : fnRun P E tabs n f as = some r) : Good P f as r := by
  have ht' := ht
  simp only [tabsOk, Bool.and_eq_true] at ht'
  unfold fnRun at h
  split at h
  · next t hl =>
    exact good_of_run (reg := fun _ N => regOf P E N t) (T := tabT t) (fun N => regOf_ok hE ht'.1 N t) (fun fn c hfn hc => tab_ok ht (Nat.mod_eq_of_lt hf) hl hfn hc) h
  · cases h
/-- A function that is lent its first argument stands in the tables under its number and zeroN. -/
def fnRunL (P : Program) (E : Env) (tabs : Tabs) (n : Nat) (f : FuncId) (y : Cell Unit) (as : List (SV Unit)) : Option (SV Unit) := match tabs.lookup (f + zeroN) with
  | some t => funRunL P (fun _ N => regOf P E N t) n f y as
  | none => none
theorem fnRunL_ok {P : Program} {E : Env} (hE : EnvOk P E) {tabs : Tabs} (ht : tabsOk P tabs = true) {n : Nat} {f : FuncId} {y : Cell Unit} {as : List (SV Unit)} {r : SV Unit} (hf : f < zeroN) (h : fnRunL P E tabs n f y as = some r) : GoodL P f y as r := by
  have ht' := ht
  simp only [tabsOk, Bool.and_eq_true] at ht'
  unfold fnRunL at h
  split at h
  · next t hl =>
    exact goodL_of_run (reg := fun _ N => regOf P E N t) (T := tabT t) (fun N => regOf_ok hE ht'.1 N t) (fun fn c hfn hc => tab_ok ht (by rw [Nat.add_mod_right, Nat.mod_eq_of_lt hf]) hl hfn hc) h
  · cases h
def fnRunE (P : Program) (E : Env) (tabs : Tabs) (n : Nat) (f : FuncId) (as : List (SV Unit)) : Option (SV Unit) := if f < zeroN then match lentOf as with
  | some (y, l) => fnRunL P E tabs n f y l
  | none => fnRun P E tabs n f as else none
theorem fnRunE_ok {P : Program} {E : Env} (hE : EnvOk P E) {tabs : Tabs} (ht : tabsOk P tabs = true) {n : Nat} {f : FuncId} {as : List (SV Unit)} {r : SV Unit} (h : fnRunE P E tabs n f as = some r) : GoodE P f as r := by
  unfold fnRunE at h
  split at h
  · next hf =>
    unfold GoodE
    split at h
    · next y l hl => rw [hl]; exact fnRunL_ok hE ht hf h
    · next hl => rw [hl]; exact fnRun_ok hE ht hf h
  · cases h
/-- What is known, then what can be run, to a depth. -/
def envN (P : Program) (tabs : Tabs) (ext : Env) (n : Nat) : Nat → Env
  | 0 => ext
  | k + 1 => fun f as => match ext f as with
    | some r => some r
    | none => fnRunE P (envN P tabs ext n k) tabs n f as
theorem envN_ok {P : Program} {tabs : Tabs} (ht : tabsOk P tabs = true) {ext : Env} (hx : EnvOk P ext) {n : Nat} : ∀ k, EnvOk P (envN P tabs ext n k)
  | 0 => hx
  | k + 1 => by
    intro f as r h
    simp only [envN] at h
    split at h
    · next r' h' => simp only [Option.some.injEq] at h; subst h; exact hx f as r' h'
    · exact fnRunE_ok (envN_ok ht hx k) ht h
end Go.Proofs.Ytnmocjhpbobahaa.L
namespace Go.Proofs.Ytnmocjhpbobahaa.L
open Go Go.RowKit

theorem run_mono {reg : Reg} : ∀ (n m : Nat) (c : Code) (σ : St Unit) (r : Ex × St Unit), run reg n c σ = some r → n ≤ m → run reg m c σ = some r := by
  intro n
  induction n with
  | zero => intro m c σ r h; simp [run] at h
  | succ n ih =>
    intro m c σ r h hm
    obtain ⟨k, rfl⟩ : ∃ k, m = k + 1 := ⟨m - 1, by omega⟩
    have IH := fun c σ r h => ih k c σ r h (by omega)
    cases c with
    | seq a b =>
      simp only [run] at h ⊢
      cases ha : run reg n a σ with
      | none => rw [ha] at h; cases h
      | some z =>
        obtain ⟨e, σ1⟩ := z
        rw [ha] at h
        rw [IH a σ _ ha]
        cases e with
        | normal => exact IH b σ1 r h
        | _ => exact h
    | cond x a b =>
      simp only [run] at h ⊢
      split at h
      · next v hv =>
        split at h
        · next t =>
          cases t with
          | true => exact IH a σ r h
          | false => exact IH b σ r h
        · cases h
      · cases h
    | block id a =>
      simp only [run] at h ⊢
      cases ha : run reg n a σ with
      | none => rw [ha] at h; cases h
      | some z => rw [ha] at h; rw [IH a σ _ ha]; exact h
    | loop a =>
      simp only [run] at h ⊢
      cases ha : run reg n a σ with
      | none => rw [ha] at h; cases h
      | some z =>
        obtain ⟨e, σ1⟩ := z
        rw [ha] at h
        rw [IH a σ _ ha]
        cases e with
        | normal => exact IH _ σ1 r h
        | _ => exact h
    | scope a =>
      simp only [run] at h ⊢
      cases ha : run reg n a σ with
      | none => rw [ha] at h; cases h
      | some z => rw [ha] at h; rw [IH a σ _ ha]; exact h
    | _ => exact h

/-- The code runs from σ, and Q holds behind it. -/
def RP (reg : Reg) (c : Code) (σ : St Unit) (Q : Ex → St Unit → Prop) : Prop := ∃ n e σ', run reg n c σ = some (e, σ') ∧ Q e σ'
section
variable {reg : Reg} {σ : St Unit} {Q : Ex → St Unit → Prop}
theorem rp_skip (h : Q .normal σ) : RP reg .skip σ Q := ⟨1, _, _, rfl, h⟩
theorem rp_exit {i : Nat} (h : Q (.exit i) σ) : RP reg (.exit i) σ Q := ⟨1, _, _, rfl, h⟩
theorem rp_ret (h : Q .ret σ) : RP reg .ret σ Q := ⟨1, _, _, rfl, h⟩
theorem rp_region {id : Nat} {ops : Array Oper} {draw : Bool} {σ' : St Unit} (hr : reg id ops draw σ = some σ') (h : Q .normal σ') : RP reg (.region id ops draw) σ Q := ⟨1, _, _, by simp only [run, hr], h⟩
/-- What follows a part. -/
def thenR (reg : Reg) (b : Code) (Q : Ex → St Unit → Prop) : Ex → St Unit → Prop
  | .normal, σ => RP reg b σ Q
  | e, σ => Q e σ
theorem rp_seq {a b : Code} (h : RP reg a σ (thenR reg b Q)) : RP reg (.seq a b) σ Q := by
  obtain ⟨n, e, σ1, h1, h2⟩ := h
  cases e with
  | normal =>
    obtain ⟨m, e', σ2, h3, h4⟩ := h2
    refine ⟨n + m + 1, e', σ2, ?_, h4⟩
    simp only [run, run_mono n (n + m) a σ _ h1 (by omega)]
    exact run_mono m (n + m) b σ1 _ h3 (by omega)
  | exit i => exact ⟨n + 1, _, σ1, by simp only [run, h1], h2⟩
  | goto l => exact ⟨n + 1, _, σ1, by simp only [run, h1], h2⟩
  | ret => exact ⟨n + 1, _, σ1, by simp only [run, h1], h2⟩
theorem rp_cond {x : Operand} {a b : Code} {t : Bool} (hx : valOf σ x = some (.bool t)) (h : if t = true then RP reg a σ Q else RP reg b σ Q) : RP reg (.cond x a b) σ Q := by
  cases t with
  | true =>
    obtain ⟨n, e, σ1, h1, h2⟩ := h
    exact ⟨n + 1, e, σ1, by simp only [run, hx, if_true]; exact h1, h2⟩
  | false =>
    obtain ⟨n, e, σ1, h1, h2⟩ := h
    exact ⟨n + 1, e, σ1, by simp only [run, hx, Bool.false_eq_true, if_false]; exact h1, h2⟩
def inBlock (id : Nat) (Q : Ex → St Unit → Prop) : Ex → St Unit → Prop
  | .exit i, σ => if i = id then Q .normal σ else Q (.exit i) σ
  | e, σ => Q e σ
theorem rp_block {id : Nat} {a : Code} (h : RP reg a σ (inBlock id Q)) : RP reg (.block id a) σ Q := by
  obtain ⟨n, e, σ1, h1, h2⟩ := h
  cases e with
  | exit i =>
    simp only [inBlock] at h2
    by_cases hi : i = id
    · rw [if_pos hi] at h2; exact ⟨n + 1, _, σ1, by simp only [run, h1, if_pos hi], h2⟩
    · rw [if_neg hi] at h2; exact ⟨n + 1, _, σ1, by simp only [run, h1, if_neg hi], h2⟩
  | normal => exact ⟨n + 1, _, σ1, by simp only [run, h1], h2⟩
  | goto l => exact ⟨n + 1, _, σ1, by simp only [run, h1], h2⟩
  | ret => exact ⟨n + 1, _, σ1, by simp only [run, h1], h2⟩
def inScope (Q : Ex → St Unit → Prop) : Ex → St Unit → Prop
  | .goto _, _ => False
  | e, σ => Q e σ
/-- A loop, by what holds at its head (with a measure). -/
def nextR (I : Nat → St Unit → Prop) (k : Nat) (Q : Ex → St Unit → Prop) : Ex → St Unit → Prop
  | .normal, σ => ∃ k', k' < k ∧ I k' σ
  | e, σ => Q e σ
theorem rp_loop {a : Code} (I : Nat → St Unit → Prop) (k : Nat) (h0 : I k σ) (h : ∀ k σ, I k σ → RP reg a σ (nextR I k Q)) : RP reg (.loop a) σ Q := by
  induction k using Nat.strongRecOn generalizing σ with
  | _ k ih =>
    obtain ⟨n, e, σ1, h1, h2⟩ := h k σ h0
    cases e with
    | normal =>
      obtain ⟨k', hk, h3⟩ := h2
      obtain ⟨m, e', σ2, h4, h5⟩ := ih k' hk h3
      refine ⟨n + m + 1, e', σ2, ?_, h5⟩
      simp only [run, run_mono n (n + m) a σ _ h1 (by omega)]
      exact run_mono m (n + m) _ σ1 _ h4 (by omega)
    | exit i => exact ⟨n + 1, _, σ1, by simp only [run, h1], h2⟩
    | goto l => exact ⟨n + 1, _, σ1, by simp only [run, h1], h2⟩
    | ret => exact ⟨n + 1, _, σ1, by simp only [run, h1], h2⟩
theorem RP.mono {c : Code} {Q' : Ex → St Unit → Prop} (h : RP reg c σ Q) (hq : ∀ e σ', Q e σ' → Q' e σ') : RP reg c σ Q' := by
  obtain ⟨n, e, σ1, h1, h2⟩ := h
  exact ⟨n, e, σ1, h1, hq e σ1 h2⟩
end

/-- Behind a body: its results read as r. -/
def endsAs (P : Program) (fn : Func) (r : SV Unit) : Ex → St Unit → Prop := fun e σ => (e = .normal ∨ e = .ret) ∧ ∃ xs d, resAll P σ pend0 fn.results.toList = some (xs, d) ∧ resSV xs = r
/-- A FUNCTION's CONTRACT BY ITS RUN. -/
theorem good_of {P : Program} {E : Env} (hE : EnvOk P E) {tabs : Tabs} (ht : tabsOk P tabs = true) {f : FuncId} {fn : Func} {c : Code} {t : List (Nat × RC)} {as : List (SV Unit)} {r : SV Unit} (hf : P.funcs[f]? = some fn) (hc : fn.body = some c) (htab : tabs.lookup f = some t)
    (hn : as.length ≤ fn.ntmps ∧ (fn.name == "runtime.NumGoroutine") = false) (hz : fn.ntmps < zeroN) (hfz : f < zeroN) (h : RP (regOf P E fn.ntmps t) c (argsSt 0 as) (endsAs P fn r)) : Good P f as r := by
  obtain ⟨n, e, σ', h1, h2, xs, d, h3, h4⟩ := h
  refine fnRun_ok hE ht (n := n) hfz ?_
  simp only [fnRun, htab, funRun, hf, hc, if_pos (And.intro (And.intro hn.1 hz) hn.2), h1, if_pos h2, h3, h4]
/-- Behind the body of a function that is lent its first argument. -/
def endsAsL (P : Program) (fn : Func) (y : Cell Unit) (R : SV Unit) : Ex → St Unit → Prop := fun e σ => (e = .normal ∨ e = .ret) ∧ ∃ xs d z, resAll P σ pend0 fn.results.toList = some (xs, d) ∧ backOf σ d y = some z ∧ lentSV z (resSV xs) = R
theorem goodL_of {P : Program} {E : Env} (hE : EnvOk P E) {tabs : Tabs} (ht : tabsOk P tabs = true) {f : FuncId} {fn : Func} {c : Code} {t : List (Nat × RC)} {y : Cell Unit} {as : List (SV Unit)} {R : SV Unit} (hf : P.funcs[f]? = some fn) (hc : fn.body = some c) (htab : tabs.lookup (f + zeroN) = some t)
    (hn : as.length < fn.ntmps ∧ (fn.name == "runtime.NumGoroutine") = false) (hz : fn.ntmps < zeroN) (hfz : f < zeroN) (h : RP (regOf P E (fn.ntmps + zeroN) t) c (argsSt 0 (one (.c y) :: as)) (endsAsL P fn y R)) : GoodL P f y as R := by
  obtain ⟨n, e, σ', h1, h2, xs, d, z, h3, h4, h5⟩ := h
  refine fnRunL_ok hE ht (n := n) hfz ?_
  simp only [fnRunL, htab, funRunL, hf, hc, if_pos (And.intro (And.intro hn.1 hz) hn.2), h1, if_pos h2, h3, h4, h5]
end Go.Proofs.Ytnmocjhpbobahaa.L
