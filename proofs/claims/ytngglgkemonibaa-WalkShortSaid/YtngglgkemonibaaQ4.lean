/- L25: from the trees' answer to a function's contract. L26: what an operation's effect hangs on: its operands' slots, and those that they lead to. L27: the frame of each effect. -/
import Derived.Test.YtngglgkemonibaaQ3
import Derived.Orders
set_option linter.unusedVariables false
set_option linter.unusedSimpArgs false
set_option linter.unnecessarySimpa false
namespace Go.Proofs.Ytngglgkemonibaa.L
open Go Go.RowKit

section
variable {α : Type}
def eraseRes (x : (Kd × List (Cell α)) × Pend α) : (Kd × List (Cell Unit)) × Pend Unit := ((x.1.1, x.1.2.map Cell.erase), x.2.erase)
theorem resOne_erase (P : Program) (σ : St α) (d : Pend α) (r : ResultVar) : resOne P σ.erase d.erase r = (resOne P σ d r).map eraseRes := by
  cases r with
  | tmp t =>
    simp only [resOne, get_erase, okPart_erase]
    split
    · simp only [SV.erase]
      rw [takeAll_erase]
      cases takeAll σ t d 0 (σ.get t).cs with
      | none => rfl
      | some z => rfl
    · rfl
  | cell a ty =>
    simp only [resOne]
    rw [adOf_erase]
    cases adOf σ (.tmp a) with
    | none => rfl
    | some ad => cases ad with
      | frz g row off => rfl
      | own r p off =>
        simp only [Option.map_some, Ad.erase]
        rw [rowAtP_erase]
        cases rowAtP σ r p with
        | none => rfl
        | some row =>
          simp only [Option.map_some, List.length_map]
          split
          · rw [← List.map_drop, ← List.map_take, seen_erase]
            cases seen r p off ((row.drop off).take (P.cellsOf ty)) with
            | none => rfl
            | some ls =>
              simp only [Option.map_some]
              rw [takeAll_erase]
              cases takeAll σ 0 d 0 ls with
              | none => rfl
              | some z => rfl
          · rfl
theorem resAll_erase (P : Program) (σ : St α) : ∀ (l : List ResultVar) (d : Pend α), resAll P σ.erase d.erase l = (resAll P σ d l).map (fun z => (z.1.map (fun x => (x.1, x.2.map Cell.erase)), z.2.erase))
  | [], d => rfl
  | r :: l, d => by
    simp only [resAll]
    rw [resOne_erase]
    cases resOne P σ d r with
    | none => rfl
    | some z =>
      obtain ⟨x, d'⟩ := z
      simp only [Option.map_some, eraseRes]
      rw [resAll_erase P σ l d']
      cases resAll P σ d' l with
      | none => rfl
      | some z2 => rfl
end

def rvSem (tm : Array Value) : ResultVar → Sem Value
  | .tmp t => pure (tm.getD t undef)
  | .cell a t => do loadVar t (← asAddr (tm.getD a undef))

theorem run_load_pack {P : Program} {w : World} {ty : TypeId} {a : Addr} {l : List Value} (hl : l.length = P.cellsOf ty) (hc : ∀ j v, l[j]? = some v → w.cell? (a.add j) = some v)
    (hk : (isAggB P ty = true ∧ 0 < P.cellsOf ty) ∨ (isAggB P ty = false ∧ P.cellsOf ty = 1 ∧ (P.underlying ty).isSome)) : (loadVar ty a).run P w = .ok (pack (if isAggB P ty then .agg else .one) l) w := by
  rcases hk with ⟨hb, _⟩ | ⟨hb, h1, h2⟩
  · have hu : ∃ d, P.underlying ty = some d := by
      unfold isAggB at hb
      cases hd : P.underlying ty with
      | none => rw [hd] at hb; simp at hb
      | some d => exact ⟨d, rfl⟩
    obtain ⟨d, hu⟩ := hu
    obtain ⟨i, hi, _⟩ := info_of_underlying hu
    have hr1 := run_isAgg hu w
    have hr2 := run_sizeOf hi w
    have hr3 := run_loadCells_list (P := P) w a l hc
    rw [hl] at hr3
    simp [loadVar, hr1, hb, hr2, hr3, pack]
  · obtain ⟨d, hu⟩ := Option.isSome_iff_exists.1 h2
    rw [h1] at hl
    cases l with
    | nil => simp at hl
    | cons v l => cases l with
      | cons u l => simp at hl
      | nil =>
        have hv := hc 0 v rfl
        rw [add_zero] at hv
        have hr1 := run_isAgg hu w
        simp [loadVar, hr1, hb, hv, pack]

theorem resOne_ok {w0 w : World} {Γ : St Gh} {tm : Array Value} {P : Program} {d d' : Pend Gh} {pool : List GC} {rv : ResultVar} {k : Kd} {l : List GC} (h0 : Inv w0 Γ [] tm w) (h : Inv w0 (Γ.pend d) pool tm w) (hb : Back Γ (Γ.pend d))
    (hr : resOne P Γ d rv = some ((k, l), d')) : Inv w0 (Γ.pend d') (l ++ pool) tm w ∧ Back Γ (Γ.pend d') ∧ (rvSem tm rv).run P w = .ok (pack k (l.map Cell.val)) w ∧ (∀ c ∈ l, c.isDead = false) ∧ (k = .one ∧ l.length = 1 ∨ k = .agg) := by
  cases rv with
  | tmp t =>
    simp only [resOne] at hr
    split at hr
    · next hok =>
      split at hr
      · next l' d1 hl =>
        simp only [Option.some.injEq, Prod.mk.injEq] at hr
        obtain ⟨⟨rfl, rfl⟩, rfl⟩ := hr
        obtain ⟨us, u1, u2⟩ := h0.rel t
        obtain ⟨a1, a2, a3, a4⟩ := takeAll_ok (Γ.get t).cs us pool d d1 0 l' h hb (fun k c hk _ => by simpa using hk) u1 (h0.hold t) hl
        refine ⟨a1, a2, ?_, a4, ?_⟩
        · show Result.ok (tm.getD t undef) w = _
          rw [u2, a3]
        · simp only [SV.okPart, Bool.and_eq_true, Bool.or_eq_true, bne_iff_ne, ne_eq, beq_iff_eq] at hok
          have hlen : l'.length = (Γ.get t).cs.length := by rw [← rels_length u1, a3]; simp
          cases hk : (Γ.get t).k with
          | one =>
            rcases hok.1.2 with q | q
            · exact absurd hk q
            · exact .inl ⟨rfl, by rw [hlen]; exact q⟩
          | agg => exact .inr rfl
          | tup ks => rw [hk] at hok; simp [Kd.flat] at hok
      · cases hr
    · cases hr
  | cell a ty =>
    simp only [resOne] at hr
    split at hr
    · next r p off had =>
      obtain ⟨y, ad, hy, ho, ha, hv⟩ := adOf_ok h0 had
      have hyh := h0.cell hy
      have hspot := own_addr hyh ho ha
      split at hr
      · next row hrow =>
        have hrow' : row = y.row := by
          unfold rowAtP at hrow
          rw [hy] at hrow
          simp only [ho, if_true, Option.some.injEq] at hrow
          exact hrow.symm
        subst hrow'
        split at hr
        · next hc =>
          obtain ⟨hlen, hkind⟩ := hc
          split at hr
          · next ls hls =>
            split at hr
            · next l' d1 hl =>
              simp only [Option.some.injEq, Prod.mk.injEq] at hr
              obtain ⟨⟨rfl, rfl⟩, rfl⟩ := hr
              have hsub : ∀ k x, ((y.row.drop off).take (P.cellsOf ty))[k]? = some x → y.row[off + k]? = some x := by
                intro k x hx
                rw [List.getElem?_take] at hx
                split at hx
                · rw [List.getElem?_drop] at hx; exact hx
                · cases hx
              obtain ⟨b1, b2, b3, b4⟩ := seen_ok hy ho hyh _ off ls hsub hls
              have hnoown : ∀ k c, ls[k]? = some (.c c) → c.isOwn = true → (Γ.get 0).cs[0 + k]? = some (.c c) := by
                intro k c hk hco
                exfalso
                have key : ∀ (l : List GC) (off : Nat) (ls : List (SC Gh)), seen r p off l = some ls → ∀ c, SC.c c ∈ ls → c.isOwn = false := by
                  intro l
                  induction l with
                  | nil => intro off ls h c hc; simp only [seen, Option.some.injEq] at h; subst h; simp at hc
                  | cons x l ih =>
                    intro off ls h c hc
                    simp only [seen] at h
                    split at h
                    · next y0 ys h1 h2 =>
                      simp only [Option.some.injEq] at h
                      subst h
                      rcases List.mem_cons.1 hc with hc | hc
                      · subst hc
                        split at h1
                        · cases h1
                        · split at h1
                          · next hcp =>
                            simp only [Option.some.injEq, SC.c.injEq] at h1
                            subst h1
                            cases x <;> simp_all [Cell.copyable, Cell.isOwn]
                          · cases h1
                      · exact ih (off + 1) ys h2 c hc
                    · cases h
                rw [key _ _ _ hls c (List.mem_of_getElem? hk)] at hco; cases hco
              obtain ⟨a1, a2, a3, a4⟩ := takeAll_ok ls _ pool d d1 0 l' h hb hnoown b1 b2 hl
              have hll : l'.length = P.cellsOf ty := by
                have := congrArg List.length a3
                simp at this
                omega
              have hcells : ∀ j u, (((y.row.drop off).take (P.cellsOf ty)).map Cell.val)[j]? = some u → w.cell? ((ad.add off).add j) = some u := by
                intro j u hu
                rw [List.getElem?_map] at hu
                cases hx : ((y.row.drop off).take (P.cellsOf ty))[j]? with
                | none => rw [hx] at hu; cases hu
                | some z =>
                  rw [hx] at hu
                  simp only [Option.map_some, Option.some.injEq] at hu
                  subst hu
                  obtain ⟨a', ha', _, u, hu1, hu2⟩ := base_cell hyh (hsub j z hx)
                  rw [ha] at ha'; cases ha'
                  rw [add_add hspot]
                  rcases hu2 with hu2 | hu2
                  · rw [b4 z (List.mem_of_getElem? hx)] at hu2; cases hu2
                  · rw [← hu2]; exact hu1
              have hload := run_load_pack (P := P) (w := w) (ty := ty) (a := ad.add off) (l := l'.map Cell.val) (by simpa using hll) (by rw [← a3]; exact hcells) hkind
              refine ⟨a1, a2, ?_, a4, ?_⟩
              · show ((asAddr (tm.getD a undef)) >>= fun x => loadVar ty x).run P w = _
                rw [show tm.getD a undef = _ from hv]
                exact hload
              · rcases hkind with ⟨z1, _⟩ | ⟨z1, z2, z3⟩
                · exact .inr (if_pos z1)
                · exact .inl ⟨if_neg (by rw [z1]; simp), by rw [hll]; exact z2⟩
            · cases hr
          · cases hr
        · cases hr
      · cases hr
    · cases hr

theorem resAll_ok {w0 w : World} {Γ : St Gh} {tm : Array Value} {P : Program} (h0 : Inv w0 Γ [] tm w) : ∀ (rvs : List ResultVar) (d d' : Pend Gh) (pool : List GC) (xs : List (Kd × List GC)),
    Inv w0 (Γ.pend d) pool tm w → Back Γ (Γ.pend d) → resAll P Γ d rvs = some (xs, d') →
    Inv w0 (Γ.pend d') ((xs.flatMap (·.2)) ++ pool) tm w ∧ (rvs.mapM (rvSem tm)).run P w = .ok (xs.map fun x => pack x.1 (x.2.map Cell.val)) w ∧ (∀ x ∈ xs, (∀ c ∈ x.2, c.isDead = false) ∧ (x.1 = .one ∧ x.2.length = 1 ∨ x.1 = .agg))
  | [], d, d', pool, xs, h, hb, hr => by
    simp only [resAll, Option.some.injEq, Prod.mk.injEq] at hr
    obtain ⟨rfl, rfl⟩ := hr
    exact ⟨h, rfl, by simp⟩
  | rv :: rvs, d, d', pool, xs, h, hb, hr => by
    simp only [resAll] at hr
    split at hr
    · next x d1 h1 =>
      obtain ⟨k, l⟩ := x
      split at hr
      · next ys d2 h2 =>
        simp only [Option.some.injEq, Prod.mk.injEq] at hr
        obtain ⟨rfl, rfl⟩ := hr
        obtain ⟨a1, a2, a3, a4, a5⟩ := resOne_ok h0 h hb h1
        obtain ⟨b1, b2, b3⟩ := resAll_ok h0 rvs d1 d2 (l ++ pool) ys a1 a2 h2
        refine ⟨?_, ?_, ?_⟩
        · refine b1.permL ?_
          simp only [List.flatMap_cons, List.append_assoc]
          exact (List.perm_append_comm_assoc l (ys.flatMap (·.2)) pool)
        · simp [List.mapM_cons, a3, b2]
        · intro z hz
          rcases List.mem_cons.1 hz with rfl | hz
          · exact ⟨a4, a5⟩
          · exact b3 z hz
      · cases hr
    · cases hr

def oneOr : List Value → Value
  | [v] => v
  | vs => .tuple vs.toArray
theorem results_eq (fn : Func) (tm : Array Value) (w : World) (P : Program) {vs : List Value} (h : (fn.results.toList.mapM (rvSem tm)).run P w = .ok vs w) : (results fn tm).run P w = .ok (oneOr vs) w := by
  have he : results fn tm = (do let vs ← List.toArray <$> fn.results.toList.mapM (rvSem tm); pure (if h : vs.size = 1 then vs[0] else .tuple vs)) := by
    rw [← Array.mapM_eq_mapM_toList]; rfl
  rw [he]
  have h2 : ∀ (x : Sem (List Value)) , x.run P w = .ok vs w → (do let vs ← List.toArray <$> x; pure (if h : vs.size = 1 then vs[0] else .tuple vs) : Sem Value).run P w = .ok (if h : vs.toArray.size = 1 then vs.toArray[0] else .tuple vs.toArray) w := by
    intro x hx
    simp [hx]
  rw [h2 _ h]
  congr 1
  cases vs with
  | nil => rfl
  | cons v vs => cases vs with
    | nil => rfl
    | cons u vs => simp [oneOr]
theorem packL_all : ∀ (xs : List (Kd × List GC)), (∀ x ∈ xs, x.1 = .one ∧ x.2.length = 1 ∨ x.1 = .agg) →
    packL (xs.map fun x => kdOpt (x.1, x.2.length)) ((xs.flatMap (·.2)).map Cell.val) = xs.map fun x => pack x.1 (x.2.map Cell.val)
  | [], _ => rfl
  | (k, l) :: xs, h => by
    have ih := packL_all xs fun x hx => h x (by simp [hx])
    rcases h (k, l) (by simp) with ⟨rfl, hl⟩ | hk
    · cases l with
      | nil => simp at hl
      | cons c l => cases l with
        | cons c' l => simp at hl
        | nil =>
          show Cell.val c :: packL (xs.map fun x => kdOpt (x.1, x.2.length)) ((xs.flatMap (·.2)).map Cell.val) = _
          rw [ih]; rfl
    · simp only at hk
      subst hk
      rw [List.flatMap_cons, List.map_append]
      show Value.agg (List.take l.length (l.map Cell.val ++ (xs.flatMap (·.2)).map Cell.val)).toArray :: packL (xs.map fun x => kdOpt (x.1, x.2.length)) (List.drop l.length (l.map Cell.val ++ (xs.flatMap (·.2)).map Cell.val)) = _
      rw [List.take_left' (by simp), List.drop_left' (by simp), ih]; rfl
theorem resSV_map {xs : List (Kd × List GC)} : ∃ k, resSV (xs.map fun x => (x.1, x.2.map Cell.erase)) = bare k (xs.flatMap (·.2)) ∧ ((∀ x ∈ xs, x.1 = .one ∧ x.2.length = 1 ∨ x.1 = .agg) → pack k ((xs.flatMap (·.2)).map Cell.val) = oneOr (xs.map fun x => pack x.1 (x.2.map Cell.val))) := by
  have gen : ∀ xs : List (Kd × List GC), xs.length ≠ 1 → resSV (xs.map fun x => (x.1, x.2.map Cell.erase)) = bare (.tup (xs.map fun x => kdOpt (x.1, x.2.length))) (xs.flatMap (·.2)) := by
    intro xs hx
    have hflat : (List.flatMap (·.2) (xs.map fun x => (x.1, x.2.map Cell.erase))) = (xs.flatMap (·.2)).map Cell.erase := by
      simp [List.flatMap_map, List.map_flatMap]
    cases xs with
    | nil => rfl
    | cons x xs => cases xs with
      | nil => simp at hx
      | cons y xs =>
        simp only [List.map_cons, resSV, bare]
        simp [List.flatMap_map, List.map_flatMap, List.map_map, Function.comp_def]
  cases xs with
  | nil => exact ⟨.tup [], rfl, fun _ => rfl⟩
  | cons x xs => cases xs with
    | nil => exact ⟨x.1, by simp [resSV, bare], fun _ => by simp [oneOr]⟩
    | cons y xs =>
      refine ⟨_, gen _ (by simp), fun h => ?_⟩
      simp only [pack]
      rw [packL_all _ h]
      rfl
theorem get_argsSt {α : Type} : ∀ (l : List (SV α)) (i t : Nat), (argsSt i l).get t = if i ≤ t then (l[t - i]?).getD SV.dead else SV.dead
  | [], i, t => by simp [argsSt, get_nil]
  | v :: l, i, t => by
    simp only [argsSt]
    by_cases ht : t = i
    · subst ht; simp [St.get, List.lookup]
    · have hb : (t == i) = false := by simpa using ht
      have ih := get_argsSt l (i + 1) t
      simp only [St.get, List.lookup, hb] at ih ⊢
      rw [ih]
      by_cases h : i ≤ t
      · have h1 : i + 1 ≤ t := by omega
        rw [if_pos h1, if_pos h]
        obtain ⟨m, rfl⟩ := Nat.exists_eq_add_of_le h1
        rw [show i + 1 + m - i = m + 1 by omega, show i + 1 + m - (i + 1) = m by omega]
        simp
      · rw [if_neg h, if_neg (by omega)]
theorem argsSt_erase {α : Type} : ∀ (l : List (SV α)) (i : Nat), (argsSt i l).erase = argsSt i (l.map SV.erase)
  | [], i => rfl
  | v :: l, i => by
    have := argsSt_erase l (i + 1)
    simp only [argsSt, List.map_cons, St.erase] at this ⊢
    rw [this]
theorem args_inv {w : World} (gs : List (Kd × List GC)) (n : Nat) (hg : ∀ g ∈ gs, holdsL w w.heap.size g.2 ∧ footL g.2 = [] ∧ ∀ c ∈ g.2, c.isDead = false) :
    Inv w (argsSt 0 (gs.map fun g => (⟨g.1, g.2.map .c⟩ : SV Gh))) [] ((gs.map fun g => pack g.1 (g.2.map Cell.val)).toArray ++ Array.replicate n undef) w := by
  have hget : ∀ s, (argsSt 0 (gs.map fun g => (⟨g.1, g.2.map .c⟩ : SV Gh))).get s = match gs[s]? with | some g => ⟨g.1, g.2.map .c⟩ | none => SV.dead := by
    intro s
    rw [get_argsSt]
    simp only [Nat.zero_le, if_true, Nat.sub_zero, List.getElem?_map]
    cases gs[s]? <;> rfl
  have hfoot : ∀ s, footV ((argsSt 0 (gs.map fun g => (⟨g.1, g.2.map .c⟩ : SV Gh))).get s) = [] := by
    intro s
    rw [hget]
    cases hs : gs[s]? with
    | none => simp [footV, SV.dead, SC.cell, footL, foot]
    | some g =>
      have := (hg g (List.mem_of_getElem? hs)).2.1
      simp only [footV, List.map_map]
      rw [show (SC.cell ∘ SC.c : GC → GC) = id from rfl, List.map_id]
      exact this
  have hfn : ∀ s, (footV ((argsSt 0 (gs.map fun g => (⟨g.1, g.2.map .c⟩ : SV Gh))).get s)).Nodup := fun s => by rw [hfoot]; exact List.nodup_nil
  have hfd : ∀ s t b, b ∈ footV ((argsSt 0 (gs.map fun g => (⟨g.1, g.2.map .c⟩ : SV Gh))).get s) → b ∈ footV ((argsSt 0 (gs.map fun g => (⟨g.1, g.2.map .c⟩ : SV Gh))).get t) → s = t := fun s t b hb => by rw [hfoot] at hb; cases hb
  have hfp : ∀ s b, b ∈ footV ((argsSt 0 (gs.map fun g => (⟨g.1, g.2.map .c⟩ : SV Gh))).get s) → b ∉ footL ([] : List GC) := fun s b hb => by rw [hfoot] at hb; cases hb
  refine ⟨Below.refl _ _, ?_, ?_, trivial, hfn, hfd, List.nodup_nil, hfp⟩
  · intro s
    rw [hget]
    cases hs : gs[s]? with
    | none => exact dead_rel _ _
    | some g =>
      refine ⟨g.2.map Cell.val, rels_cells _, ?_⟩
      have hlt : s < gs.length := (List.getElem?_eq_some_iff.1 hs).1
      rw [Array.getD_eq_getD_getElem?, Array.getElem?_append_left (by simpa using hlt)]
      simp [hs]
  · intro s x hx
    rw [hget] at hx
    cases hs : gs[s]? with
    | none => rw [hs] at hx; simp only [SV.dead, List.mem_singleton] at hx; subst hx; trivial
    | some g =>
      rw [hs] at hx
      simp only [List.mem_map] at hx
      obtain ⟨c, hc, rfl⟩ := hx
      exact holdsL_iff.1 (hg g (List.mem_of_getElem? hs)).1 c hc

/-- THE TREES' ANSWER IS THE FUNCTION's. -/
theorem good_of_run {P : Program} {reg : FuncId → Nat → Reg} {n : Nat} {f : FuncId} {as : List (SV Unit)} {r : SV Unit} {T : Nat → Array Oper → Bool → Bool} (hR : ∀ N, RegOk P N (reg f N) T) (hT : ∀ fn c, P.funcs[f]? = some fn → fn.body = some c → codeAll T c = true) (h : funRun P reg n f as = some r) : Good P f as r := by
  unfold funRun at h
  split at h
  · next fn hf =>
    split at h
    · next c hc =>
      split at h
      · next hlen =>
        split at h
        · next e σ hrun =>
          split at h
          · next he =>
            split at h
            · next xs d hxs =>
              simp only [Option.some.injEq] at h
              subst h
              refine ⟨⟨fn, hf, by rw [hc]; rfl, hlen.2⟩, ?_⟩
              intro w gs hgs hg
              refine calls_of_wp hf hc ?_
              have hsz : gs.length ≤ fn.ntmps := by have := hlen.1; rw [← hgs] at this; simpa using this
              have hrel : Rel w fn.ntmps (argsSt 0 as) ((gs.map fun g => pack g.1 (g.2.map Cell.val)).toArray ++ Array.replicate (fn.ntmps - (gs.map fun g => pack g.1 (g.2.map Cell.val)).toArray.size) undef) w := by
                refine ⟨_, ?_, args_inv gs _ hg, ?_⟩
                · rw [argsSt_erase, ← hgs]
                  congr 1
                  rw [List.map_map]
                  refine List.map_congr_left fun g _ => ?_
                  simp [SV.erase, bare, SC.erase]
                · simp; omega
              refine run_ok (hR fn.ntmps) n c _ σ e _ w _ (hT fn c hf hc) hrun hrel ?_
              intro tm' w' ⟨Γ, hΓ, hI, _⟩
              have hres := resAll_erase P Γ fn.results.toList pend0
              rw [hΓ, pend0_erase, hxs] at hres
              cases hx : resAll P Γ pend0 fn.results.toList with
              | none => rw [hx] at hres; cases hres
              | some z =>
                obtain ⟨ys, d'⟩ := z
                rw [hx] at hres
                simp only [Option.map_some, Option.some.injEq, Prod.mk.injEq] at hres
                obtain ⟨rfl, _⟩ := hres
                obtain ⟨b1, b2, b3⟩ := resAll_ok hI fn.results.toList pend0 d' [] ys (pend0_inv hI) (pend0_back Γ) hx
                obtain ⟨k, hk1, hk2⟩ := @resSV_map ys
                have hval := results_eq fn tm' w' P b2
                rw [← hk2 fun x hx => (b3 x hx).2] at hval
                have hfin : (⟨tm', []⟩ : Act).defers = [] ∧ ∃ v, (results fn tm').run P w' = .ok v w' ∧ ∃ k cs, bare k cs = resSV (ys.map fun x => (x.1, x.2.map Cell.erase)) ∧ Ending.returned v = .returned (pack k (cs.map Cell.val)) ∧ Below w.heap.size w w' ∧ holdsL w' w.heap.size cs ∧ (footL cs).Nodup ∧ ∀ c ∈ cs, c.isDead = false := by
                  refine ⟨rfl, _, hval, k, ys.flatMap (·.2), hk1.symm, rfl, b1.below, ?_, ?_, ?_⟩
                  · have := b1.pool; rw [List.append_nil] at this; exact this
                  · have := b1.nodP; rw [List.append_nil] at this; exact this
                  · intro c hc'
                    obtain ⟨x, hx1, hx2⟩ := List.mem_flatMap.1 hc'
                    exact (b3 x hx1).1 c hx2
                rcases he with rfl | rfl <;> exact hfin
            · cases h
          · cases h
        · cases h
      · cases h
    · cases h
  · cases h
end Go.Proofs.Ytngglgkemonibaa.L
namespace Go.Proofs.Ytngglgkemonibaa.L
open Go Go.RowKit

section
variable {α : Type}
def SC.roots : SC α → List Nat
  | .view r _ => [r]
  | .win r _ _ _ _ => [r]
  | .ref r _ _ => [r]
  | _ => []
def rootsL (l : List (SC α)) : List Nat := l.flatMap SC.roots
def rdSlot (σ : St α) (s : Nat) : List Nat := s :: rootsL (σ.get s).cs
def rdOp (σ : St α) : Operand → List Nat
  | .tmp s => rdSlot σ s
  | _ => []
def rdOps (σ : St α) (l : List Operand) : List Nat := l.flatMap (rdOp σ)
def Agree (K : List Nat) (σ σ' : St α) : Prop := ∀ s ∈ K, σ'.get s = σ.get s
theorem Agree.sub {K K' : List Nat} {σ σ' : St α} (h : Agree K σ σ') (hs : ∀ s ∈ K', s ∈ K) : Agree K' σ σ' := fun s hk => h s (hs s hk)
theorem Agree.slot {σ σ' : St α} {s : Nat} (h : Agree (rdSlot σ s) σ σ') : σ'.get s = σ.get s := h s (by simp [rdSlot])
theorem Agree.roots {σ σ' : St α} {s : Nat} (h : Agree (rdSlot σ s) σ σ') : Agree (rootsL (σ.get s).cs) σ σ' := h.sub fun r hr => by simp [rdSlot, hr]
theorem Agree.opOf {σ σ' : St α} {l : List Operand} (h : Agree (rdOps σ l) σ σ') {x : Operand} (hx : x ∈ l) : Agree (rdOp σ x) σ σ' :=
  h.sub fun r hr => List.mem_flatMap.2 ⟨x, hx, hr⟩
theorem Agree.one {σ σ' : St α} {s : Nat} (h : Agree (rdOp σ (.tmp s)) σ σ') : σ'.get s = σ.get s := h.slot

theorem opd_fr (P : Program) (Ω : Orc α) {σ σ' : St α} (t : TypeId) {x : Operand} (h : Agree (rdOp σ x) σ σ') : opd P Ω σ' t x = opd P Ω σ t x := by
  cases x with
  | tmp s => simp only [opd, h.one]
  | _ => rfl
theorem valOf_fr {σ σ' : St α} {x : Operand} (h : Agree (rdOp σ x) σ σ') : valOf σ' x = valOf σ x := by
  cases x with
  | tmp s => simp only [valOf, h.one]
  | _ => rfl
theorem intOf_fr {σ σ' : St α} {x : Operand} (h : Agree (rdOp σ x) σ σ') : intOf? σ' x = intOf? σ x := by unfold intOf?; rw [valOf_fr h]
theorem natOf_fr {σ σ' : St α} {x : Operand} (h : Agree (rdOp σ x) σ σ') : natOf? σ' x = natOf? σ x := by unfold natOf?; rw [intOf_fr h]
theorem bound_fr {σ σ' : St α} {n : Nat} {x : Option Operand} (h : ∀ y, x = some y → Agree (rdOp σ y) σ σ') : bound σ' n x = bound σ n x := by
  cases x with
  | none => rfl
  | some y => exact natOf_fr (h y rfl)
theorem ovGet_fr {σ σ' : St α} {r : Nat} (h : σ'.get r = σ.get r) (ch : List (Nat × SV α)) : ovGet σ' ch r = ovGet σ ch r := by unfold ovGet; rw [h]
theorem takeAt_fr {σ σ' : St α} {r : Nat} (h : σ'.get r = σ.get r) (d : Pend α) (p : List Nat) : takeAt σ' d r p = takeAt σ d r p := by unfold takeAt; rw [ovGet_fr h]
theorem place_slot {x : SC α} {s i r : Nat} {p : List Nat} (h : x.place s i = some (r, p)) : r = s ∨ r ∈ x.roots := by
  cases x with
  | c y => simp only [SC.place] at h; split at h <;> simp_all
  | view r' p' => simp only [SC.place, Option.some.injEq, Prod.mk.injEq] at h; obtain ⟨rfl, rfl⟩ := h; right; simp [SC.roots]
  | _ => simp [SC.place] at h
theorem takeSC_fr {σ σ' : St α} {s i : Nat} {x : SC α} {d : Pend α} (hs : σ'.get s = σ.get s) (h : Agree x.roots σ σ') : takeSC σ' d s i x = takeSC σ d s i x := by
  unfold takeSC
  cases hp : x.place s i with
  | none => rfl
  | some z =>
    obtain ⟨r, p⟩ := z
    simp only
    rcases place_slot hp with rfl | hr
    · rw [takeAt_fr hs]
    · rw [takeAt_fr (h r hr)]
theorem takeAll_fr {σ σ' : St α} {s : Nat} (hs : σ'.get s = σ.get s) : ∀ (l : List (SC α)) (d : Pend α) (i : Nat), Agree (rootsL l) σ σ' → takeAll σ' s d i l = takeAll σ s d i l
  | [], d, i, _ => rfl
  | x :: l, d, i, h => by
    simp only [takeAll]
    rw [takeSC_fr hs (h.sub fun r hr => by simp [rootsL, hr])]
    cases takeSC σ d s i x with
    | none => rfl
    | some z => simp only; rw [takeAll_fr hs l _ _ (h.sub fun r hr => by simp only [rootsL, List.flatMap_cons, List.mem_append]; exact .inr hr)]
theorem takeFrom_fr {σ σ' : St α} {x : Operand} {d : Pend α} {cs : List (SC α)} (h : Agree (rdOp σ x) σ σ') (hc : ∀ s, x = .tmp s → cs = (σ.get s).cs) : takeFrom σ' (slotOf x) d cs = takeFrom σ (slotOf x) d cs := by
  cases x with
  | tmp s => simp only [slotOf, takeFrom]; rw [takeAll_fr h.slot _ _ _ (by rw [hc s rfl]; exact h.roots)]
  | _ => rfl
theorem adOf_fr {σ σ' : St α} {x : Operand} (h : Agree (rdOp σ x) σ σ') : adOf σ' x = adOf σ x := by
  cases x with
  | tmp s =>
    have hr := h.roots
    simp only [adOf, h.one]
    split
    · split <;> first | rfl | skip
      next r p hcs =>
        rw [hr r (by rw [hcs]; simp [rootsL, SC.roots])]
    · rfl
  | _ => rfl
theorem sdOf_fr {σ σ' : St α} {x : Operand} (h : Agree (rdOp σ x) σ σ') : sdOf σ' x = sdOf σ x := by
  cases x with
  | tmp s =>
    have hr := h.roots
    simp only [sdOf, h.one]
    split
    · split <;> first | rfl | skip
      · next r p hcs => rw [hr r (by rw [hcs]; simp [rootsL, SC.roots])]
      · next r p lo n f hcs => rw [hr r (by rw [hcs]; simp [rootsL, SC.roots])]
    · rfl
  | _ => rfl
theorem adOf_root {σ : St α} {x : Operand} {r off : Nat} {p : List Nat} (h : adOf σ x = some (.own r p off)) : r ∈ rdOp σ x := by
  cases x with
  | tmp s =>
    simp only [adOf] at h
    split at h
    · split at h
      · next hcs => simp only [Option.some.injEq, Ad.own.injEq] at h; obtain ⟨rfl, _⟩ := h; simp [rdOp, rdSlot]
      · simp at h
      · next r' p' hcs =>
        split at h
        · simp only [Option.some.injEq, Ad.own.injEq] at h; obtain ⟨rfl, _⟩ := h; simp [rdOp, rdSlot, hcs, rootsL, SC.roots]
        · cases h
      · next r' p' off' hcs => simp only [Option.some.injEq, Ad.own.injEq] at h; obtain ⟨rfl, _⟩ := h; simp [rdOp, rdSlot, hcs, rootsL, SC.roots]
      · simp at h
      · cases h
    · cases h
  | _ => simp [adOf] at h
theorem sdOf_root {σ : St α} {x : Operand} {r sz lo n : Nat} {p : List Nat} {a b : Bool} {row : List (Cell α)} (h : sdOf σ x = some (.own r p sz lo n a b row)) : r ∈ rdOp σ x := by
  cases x with
  | tmp s =>
    simp only [sdOf] at h
    split at h
    · split at h
      · next hcs => simp only [Option.some.injEq, SD.own.injEq] at h; obtain ⟨rfl, _⟩ := h; simp [rdOp, rdSlot]
      · simp at h
      · next r' p' hcs =>
        split at h
        · simp only [Option.some.injEq, SD.own.injEq] at h; obtain ⟨rfl, _⟩ := h; simp [rdOp, rdSlot, hcs, rootsL, SC.roots]
        · cases h
      · next r' p' lo' n' f' hcs =>
        split at h
        · split at h
          · simp only [Option.some.injEq, SD.own.injEq] at h; obtain ⟨rfl, _⟩ := h; simp [rdOp, rdSlot, hcs, rootsL, SC.roots]
          · cases h
        · cases h
      · cases h
    · cases h
  | _ => simp [sdOf] at h
theorem rowAtP_fr {σ σ' : St α} {r : Nat} (h : σ'.get r = σ.get r) (p : List Nat) : rowAtP σ' r p = rowAtP σ r p := by unfold rowAtP; rw [h]
theorem argSC_fr {σ σ' : St α} {x : SC α} (h : Agree x.roots σ σ') : argSC σ' x = argSC σ x := by
  cases x with
  | view r p => simp only [argSC]; rw [h r (by simp [SC.roots])]
  | win r p lo n f => simp only [argSC]; rw [h r (by simp [SC.roots])]
  | _ => rfl
theorem argSCs_fr {σ σ' : St α} : ∀ (l : List (SC α)), Agree (rootsL l) σ σ' → argSCs σ' l = argSCs σ l
  | [], _ => rfl
  | x :: l, h => by
    simp only [argSCs]
    rw [argSC_fr (h.sub fun r hr => by simp [rootsL, hr]), argSCs_fr l (h.sub fun r hr => by simp only [rootsL, List.flatMap_cons, List.mem_append]; exact .inr hr)]
theorem constSV_roots (P : Program) (nil : α) (t : TypeId) (v : Value) (sv : SV α) (h : constSV P nil t v = some sv) : rootsL sv.cs = [] := by
  have key : ∀ l : List (Cell α), rootsL (l.map SC.c) = [] := by
    intro l
    induction l with
    | nil => rfl
    | cons c l ih => simpa [rootsL, SC.roots] using ih
  unfold constSV at h
  split at h
  · split at h
    · next l _ => simp only [Option.some.injEq] at h; subst h; exact key l
    · cases h
  · split at h
    · next c _ => simp only [Option.some.injEq] at h; subst h; exact key [c]
    · cases h
theorem opd_roots {P : Program} {Ω : Orc α} {σ : St α} {t : TypeId} {x : Operand} {v : SV α} (h : opd P Ω σ t x = some v) : ∀ r ∈ rootsL v.cs, r ∈ rdOp σ x := by
  cases x with
  | tmp s => simp only [opd, Option.some.injEq] at h; subst h; intro r hr; simp [rdOp, rdSlot, hr]
  | const u => intro r hr; rw [constSV_roots P _ t u v h] at hr; cases hr
  | _ => simp [opd] at h
theorem opd_tmp {P : Program} {Ω : Orc α} {σ : St α} {t : TypeId} {x : Operand} {v : SV α} (h : opd P Ω σ t x = some v) : ∀ s, x = .tmp s → v.cs = (σ.get s).cs := by
  intro s hs
  subst hs
  simp only [opd, Option.some.injEq] at h
  rw [h]
theorem argOf_fr {P : Program} {Ω : Orc α} {σ σ' : St α} {t : TypeId} {x : Operand} (h : Agree (rdOp σ x) σ σ') : argOf P Ω σ' t x = argOf P Ω σ t x := by
  unfold argOf
  rw [opd_fr P Ω t h]
  cases hv : opd P Ω σ t x with
  | none => rfl
  | some v => simp only; rw [argSCs_fr v.cs (h.sub (opd_roots hv))]
theorem argsOf_fr {P : Program} {Ω : Orc α} {σ σ' : St α} : ∀ (l : List Operand) (ts : List TypeId), Agree (rdOps σ l) σ σ' → argsOf P Ω σ' ts l = argsOf P Ω σ ts l
  | [], ts, _ => rfl
  | x :: l, ts, h => by
    simp only [argsOf]
    rw [argOf_fr (h.opOf (by simp)), argsOf_fr l ts.tail (h.sub fun r hr => by simp only [rdOps, List.flatMap_cons, List.mem_append]; exact .inr hr)]
theorem partsOf_fr {P : Program} {Ω : Orc α} {σ σ' : St α} {ty : Nat → TypeId} : ∀ (l : List (Nat × Operand)), Agree (rdOps σ (l.map (·.2))) σ σ' → partsOf P Ω σ' ty l = partsOf P Ω σ ty l
  | [], _ => rfl
  | (i, x) :: l, h => by
    simp only [partsOf]
    rw [opd_fr P Ω _ (h.opOf (by simp)), partsOf_fr l (h.sub fun r hr => by simp only [rdOps, List.map_cons, List.flatMap_cons, List.mem_append]; exact .inr hr)]
theorem takeParts_fr {P : Program} {Ω : Orc α} {σ σ' : St α} {ty : Nat → TypeId} : ∀ (l : List (Nat × Operand)) (ps : List (Nat × Option Nat × List (SC α))) (d : Pend α), Agree (rdOps σ (l.map (·.2))) σ σ' → partsOf P Ω σ ty l = some ps → takeParts σ' d ps = takeParts σ d ps
  | [], ps, d, _, hp => by simp only [partsOf, Option.some.injEq] at hp; subst hp; rfl
  | (i, x) :: l, ps, d, h, hp => by
    simp only [partsOf] at hp
    split at hp
    · next v ps' hv hps =>
      split at hp
      · simp only [Option.some.injEq] at hp
        subst hp
        simp only [takeParts]
        rw [takeFrom_fr (h.opOf (by simp)) (opd_tmp hv)]
        cases takeFrom σ (slotOf x) d v.cs with
        | none => rfl
        | some z =>
          simp only
          rw [takeParts_fr l ps' _ (h.sub fun r hr => by simp only [rdOps, List.map_cons, List.flatMap_cons, List.mem_append]; exact .inr hr) hps]
      · cases hp
    · cases hp
theorem topSC_fr {σ σ' : St α} {s t i : Nat} {x : SC α} {d : Pend α} (hs : σ'.get s = σ.get s) (h : Agree x.roots σ σ') : topSC σ' s t d i x = topSC σ s t d i x := by
  cases x with
  | c y => simp only [topSC]; rw [takeAt_fr hs]
  | view r p => simp only [topSC]; rw [takeAt_fr (h r (by simp [SC.roots]))]
  | _ => rfl
theorem takeTop_fr {σ σ' : St α} {s t : Nat} (hs : σ'.get s = σ.get s) : ∀ (l : List (SC α)) (d : Pend α) (i : Nat), Agree (rootsL l) σ σ' → takeTop σ' s t d i l = takeTop σ s t d i l
  | [], d, i, _ => rfl
  | x :: l, d, i, h => by
    simp only [takeTop]
    rw [topSC_fr hs (h.sub fun r hr => by simp [rootsL, hr])]
    cases topSC σ s t d i x with
    | none => rfl
    | some z => simp only; rw [takeTop_fr hs l _ _ (h.sub fun r hr => by simp only [rootsL, List.flatMap_cons, List.mem_append]; exact .inr hr)]
theorem newsOf_fr {σ σ' : St α} {sz : Nat} {x : Operand} (h : Agree (rdOp σ x) σ σ') : newsOf σ' sz x = newsOf σ sz x := by
  unfold newsOf
  rw [sdOf_fr h]
  cases x with
  | tmp s => simp only [h.one]; rw [takeAt_fr h.one]
  | _ => rfl
end
end Go.Proofs.Ytngglgkemonibaa.L
namespace Go.Proofs.Ytngglgkemonibaa.L
open Go Go.RowKit

section
variable {α : Type}
theorem Agree.cons {σ σ' : St α} {x : Operand} {l : List Operand} (h : Agree (rdOps σ (x :: l)) σ σ') : Agree (rdOp σ x) σ σ' ∧ Agree (rdOps σ l) σ σ' :=
  ⟨h.opOf (by simp), h.sub fun r hr => by simp only [rdOps, List.flatMap_cons, List.mem_append]; exact .inr hr⟩
theorem effPure_fr {P : Program} {σ σ' : St α} {t : Nat} {o : Oper} (h : Agree (rdOps σ o.op.operands.toList) σ σ') : effPure P σ' t o = effPure P σ t o := by
  unfold effPure
  have hv : ∀ x ∈ o.op.operands, valOf σ' x = valOf σ x := fun x hx => valOf_fr (h.opOf (Array.mem_toList_iff.2 hx))
  have ha : o.op.operands.toList.all (fun x => (valOf σ' x).isSome) = o.op.operands.toList.all (fun x => (valOf σ x).isSome) := by
    rw [Bool.eq_iff_iff, List.all_eq_true, List.all_eq_true]
    exact ⟨fun q x hx => by rw [← hv x (Array.mem_toList_iff.1 hx)]; exact q x hx, fun q x hx => by rw [hv x (Array.mem_toList_iff.1 hx)]; exact q x hx⟩
  rw [ha]
  by_cases hp : pureOp o.op = true
  · have hs : ∀ cs b, o.op ≠ .select cs b := by
      intro cs b he
      rw [he] at hp; simp [pureOp] at hp
    rw [execOp_congr (ρ := fun x => (valOf σ' x).getD undef) (ρ' := fun x => (valOf σ x).getD undef) o hs (fun x hx => by simp only [hv x hx])]
  · simp only [Bool.not_eq_true] at hp
    simp [hp]
theorem effMove_fr {P : Program} {Ω : Orc α} {σ σ' : St α} {t ty : Nat} {x : Operand} (h : Agree (rdOp σ x) σ σ') : effMove P Ω σ' t ty x = effMove P Ω σ t ty x := by
  unfold effMove; rw [opd_fr P Ω ty h]
theorem scTop_root {x : SC α} {r : Nat} : (scTop x = .view r → r ∈ x.roots) ∧ (∀ lo n, scTop x = .win r lo n → r ∈ x.roots) := by
  cases x with
  | view r' p =>
    simp only [scTop, SC.roots]
    split <;> simp_all
  | win r' p lo n f =>
    simp only [scTop, SC.roots]
    split <;> simp_all
  | _ => simp [scTop]
theorem top_root {v : SV α} {r : Nat} : (v.top = .view r → r ∈ rootsL v.cs) ∧ (∀ lo n, v.top = .win r lo n → r ∈ rootsL v.cs) := by
  obtain ⟨k, cs⟩ := v
  unfold SV.top
  simp only
  split
  · split
    · next x =>
      have := @scTop_root α x r
      simpa [rootsL] using this
    · simp
  · simp
theorem effAssign_fr {P : Program} {Ω : Orc α} {σ σ' : St α} {t ty : Nat} {x : Operand} (h : Agree (rdOp σ x) σ σ') : effAssign P Ω σ' t ty x = effAssign P Ω σ t ty x := by
  unfold effAssign
  cases x with
  | tmp s =>
    have hs := h.one
    have hr := h.roots
    simp only [hs]
    split
    · rfl
    · split
      · next r htop =>
        have hg := hr r (top_root.1 htop)
        simp only [hg, takeAt_fr hg]
      · next r lo n htop =>
        have hg := hr r (top_root.2 lo n htop)
        simp only [hg, takeAt_fr hg]
      · rw [takeTop_fr hs _ _ _ hr]
  | _ => rfl
theorem effBox_fr {P : Program} {Ω : Orc α} {σ σ' : St α} {t e : Nat} {x : Operand} (h : Agree (rdOp σ x) σ σ') : effBox P Ω σ' t e x = effBox P Ω σ t e x := by
  unfold effBox
  rw [opd_fr P Ω e h]
  cases hv : opd P Ω σ e x with
  | none => rfl
  | some v => simp only; rw [takeFrom_fr h (opd_tmp hv)]
theorem effBuild_fr {P : Program} {Ω : Orc α} {σ σ' : St α} {t ty : Nat} {l : List (Nat × Operand)} (h : Agree (rdOps σ (l.map (·.2))) σ σ') : effBuild P Ω σ' t ty l = effBuild P Ω σ t ty l := by
  unfold effBuild; rw [partsOf_fr l h]
theorem effBuildSlice_fr {P : Program} {Ω : Orc α} {σ σ' : St α} {t ty n : Nat} {l : List (Nat × Operand)} (h : Agree (rdOps σ (l.map (·.2))) σ σ') : effBuildSlice P Ω σ' t ty n l = effBuildSlice P Ω σ t ty n l := by
  unfold effBuildSlice
  rw [partsOf_fr l h]
  split
  · split
    · split
      · next z ps hz hps =>
        rw [takeParts_fr l ps _ h hps]
      · rfl
    · rfl
  · rfl
theorem effMake_fr {P : Program} {Ω : Orc α} {σ σ' : St α} {t ty : Nat} {x y : Operand} (h : Agree (rdOp σ x) σ σ') (h' : Agree (rdOp σ y) σ σ') : effMake P Ω σ' t ty x y = effMake P Ω σ t ty x y := by
  unfold effMake; rw [natOf_fr h, natOf_fr h']
theorem effLoad_fr {P : Program} {σ σ' : St α} {t ty : Nat} {x : Operand} (h : Agree (rdOp σ x) σ σ') : effLoad P σ' t ty x = effLoad P σ t ty x := by
  unfold effLoad
  rw [adOf_fr h]
  split
  · next r p off had => rw [rowAtP_fr (h r (adOf_root had))]
  · rfl
  · rfl
theorem effStore_fr {P : Program} {Ω : Orc α} {σ σ' : St α} {ty : Nat} {x y : Operand} (h : Agree (rdOp σ x) σ σ') (h' : Agree (rdOp σ y) σ σ') : effStore P Ω σ' ty x y = effStore P Ω σ ty x y := by
  unfold effStore
  rw [adOf_fr h, opd_fr P Ω ty h']
  split
  · next r p off v had hv =>
    rw [takeFrom_fr h' (opd_tmp hv)]
    have hg := h r (adOf_root had)
    cases takeFrom σ (slotOf y) pend0 v.cs with
    | none => rfl
    | some z => simp only [ovGet_fr hg]
  · rfl
theorem effFieldAddr_fr {P : Program} {σ σ' : St α} {t ty f : Nat} {x : Operand} (h : Agree (rdOp σ x) σ σ') : effFieldAddr P σ' t ty x f = effFieldAddr P σ t ty x f := by
  unfold effFieldAddr; rw [adOf_fr h]
theorem effIndexAddr_fr {P : Program} {σ σ' : St α} {t ty : Nat} {x y : Operand} (h : Agree (rdOp σ x) σ σ') (h' : Agree (rdOp σ y) σ σ') : effIndexAddr P σ' t ty x y = effIndexAddr P σ t ty x y := by
  unfold effIndexAddr; rw [adOf_fr h, sdOf_fr h, intOf_fr h']
theorem effSlice_fr {P : Program} {Ω : Orc α} {σ σ' : St α} {t ty : Nat} {x : Operand} {lo hi mx : Option Operand} (h : Agree (rdOp σ x) σ σ') (h1 : ∀ y, lo = some y → Agree (rdOp σ y) σ σ') (h2 : ∀ y, hi = some y → Agree (rdOp σ y) σ σ') (h3 : ∀ y, mx = some y → Agree (rdOp σ y) σ σ') :
    effSlice P Ω σ' t ty x lo hi mx = effSlice P Ω σ t ty x lo hi mx := by
  unfold effSlice
  rw [sdOf_fr h]
  simp only [bound_fr h1, bound_fr h2, bound_fr h3]
theorem effLen_fr {P : Program} {σ σ' : St α} {t : Nat} {args : List Operand} {tys : List TypeId} (h : Agree (rdOps σ args) σ σ') : effLen P σ' t args tys = effLen P σ t args tys := by
  unfold effLen
  split
  · rw [sdOf_fr h.cons.1]
  · rfl
theorem effAppend_fr {P : Program} {Ω : Orc α} {σ σ' : St α} {t : Nat} {args : List Operand} {tys : List TypeId} (h : Agree (rdOps σ args) σ σ') : effAppend P Ω σ' t args tys = effAppend P Ω σ t args tys := by
  unfold effAppend
  split
  · next x y tx ty =>
    have hx := h.cons.1
    have hy := h.cons.2.cons.1
    rw [sdOf_fr hx]
    split
    · next e e' d _ _ hd =>
      split
      · rw [newsOf_fr hy]
        cases newsOf σ d.sz y with
        | none => rfl
        | some z =>
          simp only
          split
          · split
            · next r p sz lo n f row _ _ =>
              rw [takeAt_fr (hx r (sdOf_root hd))]
            · rfl
            · rfl
          · rfl
      · rfl
    · rfl
  · rfl
theorem effCopy_fr {P : Program} {σ σ' : St α} {t : Nat} {args : List Operand} {tys : List TypeId} (h : Agree (rdOps σ args) σ σ') : effCopy P σ' t args tys = effCopy P σ t args tys := by
  unfold effCopy
  split
  · next x y tx ty =>
    have hx := h.cons.1
    have hy := h.cons.2.cons.1
    rw [sdOf_fr hx, sdOf_fr hy]
    split
    · next hd _ => rw [hx _ (sdOf_root hd)]
    · rfl
  · rfl
theorem effCall_fr {P : Program} {E : Env} {Ω : Orc α} {σ σ' : St α} {t f : Nat} {args : List Operand} (h : Agree (rdOps σ args) σ σ') : effCall P E Ω σ' t f args = effCall P E Ω σ t f args := by
  unfold effCall
  split
  · rw [argsOf_fr args _ h]
  · rfl
theorem effExtract_fr {σ σ' : St α} {t i : Nat} {x : Operand} (h : Agree (rdOp σ x) σ σ') : effExtract σ' t x i = effExtract σ t x i := by
  cases x with
  | tmp s => simp only [effExtract, h.one]
  | _ => rfl
theorem effNil_fr {σ σ' : St α} {t : Nat} {x : Operand} (h : Agree (rdOp σ x) σ σ') : effNil σ' t x = effNil σ t x := by
  cases x with
  | tmp s => simp only [effNil, h.one]
  | _ => rfl

/-- AN EFFECT HANGS ON ITS OPERANDS' SLOTS AND WHAT THEY LEAD TO. -/
theorem ieff_fr {P : Program} {E : Env} {Ω : Orc α} {σ σ' : St α} {o : Oper} (h : Agree (rdOps σ o.op.operands.toList) σ σ') : ieff P E Ω σ' o = ieff P E Ω σ o := by
  have hpure : ∀ t, effPure P σ' t o = effPure P σ t o := fun t => effPure_fr h
  have hx : ∀ x, x ∈ o.op.operands → Agree (rdOp σ x) σ σ' := fun x hx => h.opOf (Array.mem_toList_iff.2 hx)
  unfold ieff
  cases ho : o.op with
  | move x => simp only [effMove_fr (hx x (by rw [ho]; simp [Op.operands]))]
  | assign x => simp only [effAssign_fr (hx x (by rw [ho]; simp [Op.operands]))]
  | alloc e => rfl
  | box e x => simp only [effBox_fr (hx x (by rw [ho]; simp [Op.operands]))]
  | build ty parts =>
    have h2 : Agree (rdOps σ (parts.toList.map (·.2))) σ σ' := by rw [ho] at h; simpa [Op.operands] using h
    simp only [effBuild_fr h2]
  | buildSlice ty n parts =>
    have h2 : Agree (rdOps σ (parts.toList.map (·.2))) σ σ' := by rw [ho] at h; simpa [Op.operands] using h
    simp only [effBuildSlice_fr h2]
  | makeSlice ty x y => simp only [effMake_fr (hx x (by rw [ho]; simp [Op.operands])) (hx y (by rw [ho]; simp [Op.operands]))]
  | load ty x => simp only [effLoad_fr (hx x (by rw [ho]; simp [Op.operands]))]
  | store ty x y => simp only [effStore_fr (hx x (by rw [ho]; simp [Op.operands])) (hx y (by rw [ho]; simp [Op.operands]))]
  | fieldAddr ty x f => simp only [effFieldAddr_fr (hx x (by rw [ho]; simp [Op.operands]))]
  | indexAddr ty x y => simp only [effIndexAddr_fr (hx x (by rw [ho]; simp [Op.operands])) (hx y (by rw [ho]; simp [Op.operands]))]
  | slice ty x lo hi mx =>
    have := @effSlice_fr α P Ω σ σ'
    simp only [hpure]
    cases hd : o.dst with
    | none => rfl
    | some t =>
      simp only
      rw [effSlice_fr (hx x (by rw [ho]; simp [Op.operands])) (fun y hy => hx y (by rw [ho]; simp [Op.operands, hy])) (fun y hy => hx y (by rw [ho]; simp [Op.operands, hy])) (fun y hy => hx y (by rw [ho]; simp [Op.operands, hy]))]
  | extract x i => simp only [effExtract_fr (hx x (by rw [ho]; simp [Op.operands]))]
  | nilCheck x => simp only [effNil_fr (hx x (by rw [ho]; simp [Op.operands]))]
  | call c =>
    have h2 : Agree (rdOps σ c.args.toList) σ σ' := by
      refine h.sub fun r hr => ?_
      obtain ⟨y, hy1, hy2⟩ := List.mem_flatMap.1 hr
      refine List.mem_flatMap.2 ⟨y, ?_, hy2⟩
      rw [ho]; simp only [Op.operands, Call.operands, Array.toList_append, List.mem_append]
      exact .inr hy1
    simp only [hpure, effLen_fr h2, effAppend_fr h2, effCopy_fr h2, effCall_fr h2]
  | _ => simp only [hpure]
end
end Go.Proofs.Ytngglgkemonibaa.L
