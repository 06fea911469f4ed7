/- L28: regions in whatever order: what one phase shows. L29: regions in whatever order. L30: regions in whatever order: the theorem; what a region leaves. L31: regions by a table; functions by a table. -/
import Derived.Test.YtngglgkemonibaaQ4
set_option linter.unusedVariables false
set_option linter.unusedSimpArgs false
set_option linter.unnecessarySimpa false
namespace Go.Proofs.Ytngglgkemonibaa.L
open Go Go.RowKit

def stepEff (P : Program) (E : Env) (N : Nat) (ops : Array Oper) (σ : St Unit) (o : Oper) : Option (Eff Unit) := match wantedS σ ops o with
  | some true => if dstOk N o then ieff P E ΩU σ o else none
  | some false => if dstOk N o then match o.dst with
    | some t => some (effPut t undefSV)
    | none => some ⟨[], [], []⟩ else none
  | none => none
theorem stepOp_eff {P : Program} {E : Env} {N : Nat} {ops : Array Oper} {σ : St Unit} {o : Oper} {e : Eff Unit} (h : stepEff P E N ops σ o = some e) : stepOp P E N ops σ o = some (σ.app e) := by
  unfold stepEff at h
  unfold stepOp
  split at h
  · next hw =>
    rw [hw]
    simp only
    split at h
    · next hd => rw [if_pos hd, h]
    · cases h
  · next hw =>
    rw [hw]
    simp only
    split at h
    · next hd =>
      rw [if_pos hd]
      split at h
      · next t ht => simp only [Option.some.injEq] at h; subst h; rw [ht]
      · next ht => simp only [Option.some.injEq] at h; subst h; rw [ht]; rfl
    · cases h
  · cases h
def rdGuard (ops : Array Oper) (o : Oper) : List Nat := match o.guard with
  | some (j, _) => ((ops[j]?).bind (·.dst)).toList
  | none => []
def rdO (σ : St Unit) (ops : Array Oper) (o : Oper) : List Nat := rdGuard ops o ++ rdOps σ o.op.operands.toList
theorem wantedS_fr {σ σ' : St Unit} {ops : Array Oper} {o : Oper} (h : Agree (rdGuard ops o) σ σ') : wantedS σ' ops o = wantedS σ ops o := by
  unfold wantedS
  cases hg : o.guard with
  | none => rfl
  | some jw =>
    obtain ⟨j, w⟩ := jw
    simp only
    cases ht : (ops[j]?).bind (·.dst) with
    | none => rfl
    | some t => simp only; rw [h t (by simp [rdGuard, hg, ht])]
theorem stepEff_fr {P : Program} {E : Env} {N : Nat} {ops : Array Oper} {σ σ' : St Unit} {o : Oper} (h : Agree (rdO σ ops o) σ σ') : stepEff P E N ops σ' o = stepEff P E N ops σ o := by
  unfold stepEff
  rw [wantedS_fr (h.sub fun s hs => by simp [rdO, hs]), ieff_fr (h.sub fun s hs => by simp [rdO, hs])]
theorem rdOp_fr {σ σ' : St Unit} {x : Operand} (h : Agree (rdOp σ x) σ σ') : rdOp σ' x = rdOp σ x := by
  cases x with
  | tmp s => simp only [rdOp, rdSlot, h.one]
  | _ => rfl
theorem rdOps_fr {σ σ' : St Unit} : ∀ (l : List Operand), Agree (rdOps σ l) σ σ' → rdOps σ' l = rdOps σ l
  | [], _ => rfl
  | x :: l, h => by
    have := rdOps_fr l h.cons.2
    unfold rdOps at this ⊢
    rw [List.flatMap_cons, List.flatMap_cons, this, rdOp_fr h.cons.1]
theorem rdO_fr {σ σ' : St Unit} {ops : Array Oper} {o : Oper} (h : Agree (rdO σ ops o) σ σ') : rdO σ' ops o = rdO σ ops o := by
  unfold rdO
  rw [rdOps_fr _ (h.sub fun s hs => by simp [rdO, hs])]

theorem putAll_congr {α : Type} {s : Nat} : ∀ (l : List (Nat × SV α)) (σ σ' : St α), σ'.get s = σ.get s → (putAll σ' l).get s = (putAll σ l).get s
  | [], _, _, h => h
  | (t, v) :: l, σ, σ', h => by
    simp only [putAll]
    exact putAll_congr l _ _ (by rw [get_put, get_put, h])
theorem app_congr {α : Type} {σ σ' : St α} {s : Nat} (h : σ'.get s = σ.get s) (e : Eff α) : (σ'.app e).get s = (σ.app e).get s := by
  unfold St.app
  refine putAll_congr _ _ _ ?_
  rw [get_kill, get_kill, putAll_congr _ _ _ h]

/-! ### the plan of a region -/
inductive Role where
  | fn (lo hi : Nat)
  | wr (k : Nat)
/-- A: whom an operation must wait for (a mask for each); roles; the writers in their order; D: who fills a slot. -/
structure Cert where
  A : List Nat
  roles : List Role
  ws : List Nat
  D : List (Nat × Nat)
def Cert.anc (C : Cert) (i b : Nat) : Bool := (C.A.getD i 0).testBit b
def okRead (C : Cert) (i s : Nat) : Bool := match C.D.lookup s with
  | some g => C.anc i g
  | none => true
def isPut (e : Eff Unit) (d : Nat) : Option (SV Unit) := match e.pre, e.kill, e.post with
  | [(t, v)], [(t', [])], [] => if t = d ∧ t' = d then some v else none
  | _, _, _ => none
theorem isPut_eq {e : Eff Unit} {d : Nat} {v : SV Unit} (h : isPut e d = some v) : e = effPut d v := by
  obtain ⟨pre, kill, post⟩ := e
  unfold isPut at h
  split at h
  · next h1 h2 h3 =>
    simp only at h1 h2 h3
    subst h1; subst h2; subst h3
    split at h
    · next hd =>
      simp only [Option.some.injEq] at h
      subst h
      obtain ⟨rfl, rfl⟩ := hd
      rfl
    · cases h
  · cases h
/-- Surely the same (what is of many parts does not count). -/
def scSame : SC Unit → SC Unit → Bool
  | .view r p, .view r' p' => r == r' && p == p'
  | .ref r p o, .ref r' p' o' => r == r' && p == p' && o == o'
  | .win r p a b f, .win r' p' a' b' f' => r == r' && p == p' && a == a' && b == b' && f == f'
  | .c (.sc (.int k n)), .c (.sc (.int k' n')) => decide (k = k') && decide (n = n')
  | .c (.sc (.bool b)), .c (.sc (.bool b')) => b == b'
  | _, _ => false
def scsSame : List (SC Unit) → List (SC Unit) → Bool
  | [], [] => true
  | x :: l, y :: m => scSame x y && scsSame l m
  | _, _ => false
def svSame (v u : SV Unit) : Bool := decide (v.k = u.k) && scsSame v.cs u.cs
theorem scSame_eq {x y : SC Unit} (h : scSame x y = true) : x = y := by
  unfold scSame at h
  split at h <;> simp_all
theorem scsSame_eq : ∀ {l m : List (SC Unit)}, scsSame l m = true → l = m
  | [], [], _ => rfl
  | x :: l, y :: m, h => by
    simp only [scsSame, Bool.and_eq_true] at h
    rw [scSame_eq h.1, scsSame_eq h.2]
  | [], y :: m, h => by simp [scsSame] at h
  | x :: l, [], h => by simp [scsSame] at h
theorem svSame_eq {v u : SV Unit} (h : svSame v u = true) : v = u := by
  obtain ⟨k, cs⟩ := v
  obtain ⟨k', cs'⟩ := u
  simp only [svSame, Bool.and_eq_true, decide_eq_true_eq] at h
  rw [h.1, scsSame_eq h.2]

/-- No slot leads to one that is yet to be filled. -/
def rootsOk (C : Cert) (j : Nat) (τ : St Unit) : Bool := τ.all fun x => (rootsL x.2.cs).all fun r => match C.D.lookup r with
  | none => true
  | some f => (match C.roles[f]? with
    | some (.fn _ hi) => decide (hi < j)
    | _ => true) || (match C.D.lookup x.1 with
    | some g => C.anc g f
    | none => false)
def doAgain (P : Program) (E : Env) (N : Nat) (ops : Array Oper) (C : Cert) (τ : St Unit) : List Nat → Bool
  | [] => true
  | i :: l => (match ops[i]? with
    | some o => match o.dst, stepEff P E N ops τ o with
      | some d, some e => match isPut e d with
        | some v => svSame v (τ.get d) && (rdO τ ops o).all (okRead C i)
        | none => false
      | _, _ => false
    | none => false) && doAgain P E N ops C τ l
def doFresh (P : Program) (E : Env) (N : Nat) (ops : Array Oper) (C : Cert) : List Nat → St Unit → Option (St Unit)
  | [], τ => some τ
  | i :: l, τ => match ops[i]? with
    | some o => match o.dst, stepEff P E N ops τ o with
      | some d, some e => match isPut e d with
        | some v => if (rdO τ ops o).all (okRead C i) && (rootsL v.cs).all (okRead C i) then doFresh P E N ops C l (τ.put d v) else none
        | none => none
      | _, _ => none
    | none => none
def phaseRun (P : Program) (E : Env) (N : Nat) (ops : Array Oper) (C : Cert) (j : Nat) (pl : List Nat × List Nat) (τ : St Unit) : Option (St Unit) :=
  if rootsOk C j τ && doAgain P E N ops C τ pl.2 then doFresh P E N ops C pl.1 τ else none

/-- What a region's shape shows, once for all. -/
structure Static (ops : Array Oper) (C : Cert) (m : Nat) : Prop where
  size : C.roles.length = ops.size
  edge : ∀ (i : Nat) (o : Oper), ops[i]? = some o → ∀ e ∈ o.after.toList, Region.binds .any e = true → e.on < i
  anc : ∀ (i : Nat) (o : Oper) (b : Nat), ops[i]? = some o → C.anc i b = true → ∃ e ∈ o.after.toList, Region.binds .any e = true ∧ (b = e.on ∨ C.anc e.on b = true)
  fn : ∀ (i : Nat) (o : Oper) (lo hi : Nat), ops[i]? = some o → C.roles[i]? = some (.fn lo hi) → lo ≤ hi ∧ hi ≤ m ∧ (∃ d, o.dst = some d ∧ C.D.lookup d = some i) ∧ (∀ k, k < lo → ∃ w, C.ws[k]? = some w ∧ C.anc i w = true) ∧ (hi < m → ∃ w, C.ws[hi]? = some w ∧ C.anc w i = true)
  wr : ∀ (i k : Nat), C.roles[i]? = some (.wr k) → C.ws[k]? = some i ∧ k < m
  ws : ∀ (k w : Nat), C.ws[k]? = some w → C.roles[w]? = some (.wr k)
  chain : ∀ (k w w' : Nat), C.ws[k]? = some w → C.ws[k + 1]? = some w' → C.anc w' w = true
  len : C.ws.length = m
  mono : ∀ (i k lo hi lo' hi' : Nat), C.roles[i]? = some (.fn lo hi) → C.roles[k]? = some (.fn lo' hi') → C.anc i k = true → lo' ≤ lo
  filled : ∀ (s g : Nat), C.D.lookup s = some g → ∃ o lo hi, ops[g]? = some o ∧ C.roles[g]? = some (.fn lo hi) ∧ o.dst = some s

section
variable {ops : Array Oper} {C : Cert} {m : Nat}
theorem anc_lt (h : Static ops C m) : ∀ (i b : Nat), i < ops.size → C.anc i b = true → b < i := by
  intro i
  induction i using Nat.strongRecOn with
  | _ i ih =>
    intro b hi hb
    obtain ⟨o, ho⟩ : ∃ o, ops[i]? = some o := ⟨ops[i], Array.getElem?_eq_getElem hi⟩
    obtain ⟨e, he, hbi, h1⟩ := h.anc i o b ho hb
    have hlt := h.edge i o ho e he hbi
    rcases h1 with rfl | h1
    · exact hlt
    · exact Nat.lt_trans (ih e.on hlt b (Nat.lt_trans hlt hi) h1) hlt

/-- What holds at a phase's end. -/
structure PhaseOk (P : Program) (E : Env) (N : Nat) (ops : Array Oper) (C : Cert) (j : Nat) (S : St Unit) : Prop where
  eff : ∀ (i : Nat) (o : Oper) (d lo hi : Nat), ops[i]? = some o → C.roles[i]? = some (.fn lo hi) → o.dst = some d → lo ≤ j → j ≤ hi → stepEff P E N ops S o = some (effPut d (S.get d)) ∧ ∀ s ∈ rdO S ops o, okRead C i s = true
  roots : ∀ (i : Nat) (o : Oper) (d lo hi s : Nat), ops[i]? = some o → C.roles[i]? = some (.fn lo hi) → o.dst = some d → lo ≤ j → j ≤ hi → d ∈ rootsL (S.get s).cs → ∃ g, C.D.lookup s = some g ∧ C.anc g i = true

theorem mem_get {τ : St Unit} {s : Nat} {r : Nat} (h : r ∈ rootsL (τ.get s).cs) : (s, τ.get s) ∈ τ := by
  unfold St.get at h ⊢
  cases hl : τ.lookup s with
  | none => rw [hl] at h; simp [SV.dead, rootsL, SC.roots] at h
  | some v =>
    simp only
    clear h
    induction τ with
    | nil => cases hl
    | cons x l ih =>
      obtain ⟨t, u⟩ := x
      simp only [List.lookup] at hl
      split at hl
      · next he =>
        simp only [Option.some.injEq] at hl
        subst hl
        have : s = t := by simpa using he
        subst this
        simp
      · exact List.mem_cons_of_mem _ (ih hl)

/-- While a phase's fresh ones are laid: those laid so far are as at the end. -/
theorem fresh_ok {P : Program} {E : Env} {N : Nat} (h : Static ops C m) {j : Nat} : ∀ (l : List Nat) (τ S : St Unit), (∀ i ∈ l, ∃ hi, C.roles[i]? = some (.fn j hi)) → l.Pairwise (· < ·) → doFresh P E N ops C l τ = some S →
    (∀ s, (∀ i o, i ∈ l → ops[i]? = some o → o.dst ≠ some s) → S.get s = τ.get s) ∧
    (∀ i o d, i ∈ l → ops[i]? = some o → o.dst = some d → stepEff P E N ops S o = some (effPut d (S.get d)) ∧ (∀ s ∈ rdO S ops o, okRead C i s = true) ∧ ∀ r ∈ rootsL (S.get d).cs, okRead C i r = true) ∧ (∀ i ∈ l, i < ops.size)
  | [], τ, S, _, _, hr => by
    simp only [doFresh, Option.some.injEq] at hr
    subst hr
    exact ⟨fun _ _ => rfl, by simp, by simp⟩
  | i :: l, τ, S, hl, hp, hr => by
    simp only [doFresh] at hr
    split at hr
    · next o ho =>
      split at hr
      · next d e hd he =>
        split at hr
        · next v hv =>
          split at hr
          · next hok =>
            simp only [Bool.and_eq_true, List.all_eq_true] at hok
            have hp' := List.pairwise_cons.1 hp
            obtain ⟨a1, a2, a3⟩ := fresh_ok h l (τ.put d v) S (fun k hk => hl k (by simp [hk])) hp'.2 hr
            have hi : i < ops.size := (Array.getElem?_eq_some_iff.1 ho).1
            obtain ⟨hi', hrole⟩ := hl i (by simp)
            obtain ⟨_, _, ⟨d0, hd0, hD⟩, _, _⟩ := h.fn i o j hi' ho hrole
            rw [hd] at hd0; cases hd0
            -- a slot that i may read, or i's own, is not filled by a later one
            have hlater : ∀ s, okRead C i s = true ∨ s = d → ∀ k o', k ∈ l → ops[k]? = some o' → o'.dst ≠ some s := by
              intro s hs k o' hk hk' hds
              obtain ⟨hk2, hkr⟩ := hl k (by simp [hk])
              obtain ⟨_, _, ⟨d1, hd1, hD1⟩, _, _⟩ := h.fn k o' j hk2 hk' hkr
              rw [hds] at hd1; cases hd1
              have hlt := hp'.1 k hk
              rcases hs with hs | rfl
              · unfold okRead at hs
                rw [hD1] at hs
                have := anc_lt h i k hi hs
                omega
              · rw [hD] at hD1; cases hD1; omega
            have hget : ∀ s, okRead C i s = true ∨ s = d → S.get s = (τ.put d v).get s := fun s hs => a1 s (hlater s hs)
            have hself : ∀ s, okRead C i s = true → s ≠ d := by
              intro s hs e'
              subst e'
              unfold okRead at hs
              rw [hD] at hs
              have := anc_lt h i i hi hs
              omega
            have hag : Agree (rdO τ ops o) τ S := by
              intro s hs
              rw [hget s (.inl (hok.1 s hs)), get_put, if_neg (hself s (hok.1 s hs))]
            have hSd : S.get d = v := by rw [hget d (.inr rfl), get_put, if_pos rfl]
            refine ⟨?_, ?_, ?_⟩
            · intro s hs
              rw [a1 s fun k o' hk => hs k o' (by simp [hk]), get_put, if_neg]
              intro e'
              subst e'
              exact hs i o (by simp) ho hd
            · intro k o' d' hk hk' hd'
              rcases List.mem_cons.1 hk with rfl | hk
              · rw [ho] at hk'; cases hk'
                rw [hd] at hd'; cases hd'
                rw [stepEff_fr hag, rdO_fr hag, hSd, he, isPut_eq hv]
                exact ⟨rfl, hok.1, hok.2⟩
              · exact a2 k o' d' hk hk' hd'
            · intro k hk
              rcases List.mem_cons.1 hk with rfl | hk
              · exact hi
              · exact a3 k hk
          · cases hr
        · cases hr
      · cases hr
    · cases hr
end
end Go.Proofs.Ytngglgkemonibaa.L
namespace Go.Proofs.Ytngglgkemonibaa.L
open Go Go.RowKit

structure PlanAt (C : Cert) (j : Nat) (pl : List Nat × List Nat) : Prop where
  fresh : ∀ (i : Nat), i ∈ pl.1 ↔ ∃ hi, C.roles[i]? = some (.fn j hi)
  inc : pl.1.Pairwise (· < ·)
  again : ∀ (i lo hi : Nat), C.roles[i]? = some (.fn lo hi) → lo < j → j ≤ hi → i ∈ pl.2

section
variable {ops : Array Oper} {C : Cert} {m : Nat}
theorem again_ok {P : Program} {E : Env} {N : Nat} {τ : St Unit} : ∀ (l : List Nat), doAgain P E N ops C τ l = true → ∀ (i : Nat) (o : Oper) (d : Nat), i ∈ l → ops[i]? = some o → o.dst = some d → stepEff P E N ops τ o = some (effPut d (τ.get d)) ∧ ∀ s ∈ rdO τ ops o, okRead C i s = true
  | [], _, i, o, d, hi, _, _ => by cases hi
  | k :: l, h, i, o, d, hi, ho, hd => by
    simp only [doAgain, Bool.and_eq_true] at h
    obtain ⟨h1, h2⟩ := h
    rcases List.mem_cons.1 hi with rfl | hi
    · rw [ho] at h1
      simp only [hd] at h1
      split at h1
      · next d' e hd' he =>
        cases hd'
        split at h1
        · next v hv =>
          simp only [Bool.and_eq_true, List.all_eq_true] at h1
          rw [he, isPut_eq hv, svSame_eq h1.1]
          exact ⟨rfl, h1.2⟩
        · cases h1
      · cases h1
    · exact again_ok l h2 i o d hi ho hd

theorem phase_ok {P : Program} {E : Env} {N : Nat} (h : Static ops C m) {j : Nat} {pl : List Nat × List Nat} (hp : PlanAt C j pl) {τ S : St Unit} (hr : phaseRun P E N ops C j pl τ = some S) :
    PhaseOk P E N ops C j S ∧ ∀ s, (∀ (i : Nat) (o : Oper) (hi : Nat), ops[i]? = some o → C.roles[i]? = some (.fn j hi) → o.dst ≠ some s) → S.get s = τ.get s := by
  unfold phaseRun at hr
  split at hr
  · next hc =>
    simp only [Bool.and_eq_true] at hc
    obtain ⟨hroots, hag⟩ := hc
    obtain ⟨a1, a2, a3⟩ := fresh_ok h pl.1 τ S (fun i hi => (hp.fresh i).1 hi) hp.inc hr
    have hkeep : ∀ s, (∀ (i : Nat) (o : Oper) (hi : Nat), ops[i]? = some o → C.roles[i]? = some (.fn j hi) → o.dst ≠ some s) → S.get s = τ.get s := by
      intro s hs
      refine a1 s fun i o hi ho => ?_
      obtain ⟨hi', hrole⟩ := (hp.fresh i).1 hi
      exact hs i o hi' ho hrole
    refine ⟨⟨?_, ?_⟩, hkeep⟩
    · intro i o d lo hi ho hrole hd hlo hhi
      rcases Nat.lt_or_ge lo j with hlt | hge
      · obtain ⟨b1, b2⟩ := again_ok pl.2 hag i o d (hp.again i lo hi hrole hlt hhi) ho hd
        obtain ⟨_, _, ⟨d0, hd0, hD⟩, _, _⟩ := h.fn i o lo hi ho hrole
        rw [hd] at hd0; cases hd0
        have hsame : ∀ s, okRead C i s = true ∨ s = d → S.get s = τ.get s := by
          intro s hs
          refine hkeep s fun k o' hi' hk hkr hds => ?_
          obtain ⟨_, _, ⟨d1, hd1, hD1⟩, _, _⟩ := h.fn k o' j hi' hk hkr
          rw [hds] at hd1; cases hd1
          rcases hs with hs | rfl
          · unfold okRead at hs
            rw [hD1] at hs
            have := h.mono i k lo hi j hi' hrole hkr hs
            omega
          · rw [hD] at hD1; cases hD1
            rw [hrole] at hkr; cases hkr
            omega
        have hagree : Agree (rdO τ ops o) τ S := fun s hs => hsame s (.inl (b2 s hs))
        rw [stepEff_fr hagree, rdO_fr hagree, hsame d (.inr rfl)]
        exact ⟨b1, b2⟩
      · have : lo = j := by omega
        subst this
        obtain ⟨b1, b2, _⟩ := a2 i o d ((hp.fresh i).2 ⟨hi, hrole⟩) ho hd
        exact ⟨b1, b2⟩
    · intro i o d lo hi s ho hrole hd hlo hhi hmem
      obtain ⟨_, _, ⟨d0, hd0, hD⟩, _, _⟩ := h.fn i o lo hi ho hrole
      rw [hd] at hd0; cases hd0
      by_cases hex : ∃ (k : Nat) (o' : Oper) (hi' : Nat), ops[k]? = some o' ∧ C.roles[k]? = some (.fn j hi') ∧ o'.dst = some s
      · obtain ⟨k, o', hi', hk, hkr, hds⟩ := hex
        obtain ⟨_, _, b3⟩ := a2 k o' s ((hp.fresh k).2 ⟨hi', hkr⟩) hk hds
        have := b3 d hmem
        unfold okRead at this
        rw [hD] at this
        obtain ⟨_, _, ⟨d1, hd1, hD1⟩, _, _⟩ := h.fn k o' j hi' hk hkr
        rw [hds] at hd1; cases hd1
        exact ⟨k, hD1, this⟩
      · have hs := hkeep s fun k o' hi' hk hkr hds => hex ⟨k, o', hi', hk, hkr, hds⟩
        rw [hs] at hmem
        have hall := List.all_eq_true.1 hroots _ (mem_get hmem)
        have := List.all_eq_true.1 hall d hmem
        simp only [hD, hrole, Bool.or_eq_true, decide_eq_true_eq] at this
        rcases this with q | q
        · omega
        · cases hg : C.D.lookup s with
          | none => rw [hg] at q; cases q
          | some g => rw [hg] at q; exact ⟨g, rfl, q⟩
  · cases hr

/-- A region in whatever order, by the trees: phase for phase. -/
def drawRun (P : Program) (E : Env) (N : Nat) (ops : Array Oper) (C : Cert) : Nat → List (List Nat × List Nat) → St Unit → Option (St Unit)
  | _, [], _ => none
  | j, pl :: rest, τ => match phaseRun P E N ops C j pl τ with
    | some S => match rest with
      | [] => some S
      | pl' :: rest' => match C.ws[j]? with
        | some i => match ops[i]? with
          | some o => match stepEff P E N ops S o with
            | some e => if (rdO S ops o).all (okRead C i) then drawRun P E N ops C (j + 1) (pl' :: rest') (S.app e) else none
            | none => none
          | none => none
        | none => none
    | none => none
def Tail (P : Program) (E : Env) (N : Nat) (ops : Array Oper) (C : Cert) (j : Nat) (rest : List (List Nat × List Nat)) (S σ' : St Unit) : Prop :=
  (rest = [] ∧ S = σ') ∨ (rest ≠ [] ∧ ∃ (i : Nat) (o : Oper) (e : Eff Unit), C.ws[j]? = some i ∧ ops[i]? = some o ∧ stepEff P E N ops S o = some e ∧ (∀ s ∈ rdO S ops o, okRead C i s = true) ∧ drawRun P E N ops C (j + 1) rest (S.app e) = some σ')
theorem drawRun_cons {P : Program} {E : Env} {N j : Nat} {pl : List Nat × List Nat} {rest : List (List Nat × List Nat)} {τ σ' : St Unit} (h : drawRun P E N ops C j (pl :: rest) τ = some σ') : ∃ S, phaseRun P E N ops C j pl τ = some S ∧ Tail P E N ops C j rest S σ' := by
  unfold drawRun at h
  split at h
  · next S hS =>
    refine ⟨S, hS, ?_⟩
    split at h
    · simp only [Option.some.injEq] at h
      exact .inl ⟨rfl, h⟩
    · split at h
      · next i hi =>
        split at h
        · next o ho =>
          split at h
          · next e he =>
            split at h
            · next hok => exact .inr ⟨by simp, i, o, e, hi, ho, he, fun s hs => List.all_eq_true.1 hok s hs, h⟩
            · cases h
          · cases h
        · cases h
      · cases h
  · cases h

/-! ### what is listed -/
def cntF : List Bool → Nat
  | [] => 0
  | true :: l => cntF l
  | false :: l => cntF l + 1
theorem cntF_set : ∀ (l : List Bool) (i : Nat), l[i]? = some false → cntF (l.set i true) + 1 = cntF l
  | [], i, h => by simp at h
  | b :: l, 0, h => by simp only [List.getElem?_cons_zero, Option.some.injEq] at h; subst h; rfl
  | b :: l, i + 1, h => by
    have := cntF_set l i (by simpa using h)
    cases b <;> simp only [List.set_cons_succ, cntF] <;> omega
theorem cntF_zero : ∀ (l : List Bool), cntF l = 0 → ∀ b ∈ l, b = true
  | [], _, b, hb => by cases hb
  | true :: l, h, b, hb => by
    rcases List.mem_cons.1 hb with rfl | hb
    · rfl
    · exact cntF_zero l h b hb
  | false :: l, h, b, hb => by simp [cntF] at h
theorem cntF_rep : ∀ n : Nat, cntF (List.replicate n false) = n
  | 0 => rfl
  | n + 1 => by simp [List.replicate_succ, cntF, cntF_rep n]
def Lst (L : Array Bool) (i : Nat) : Prop := L.getD i false = true
theorem lst_iff {L : Array Bool} {i : Nat} : Lst L i ↔ L[i]? = some true := by
  unfold Lst
  rw [Array.getD_eq_getD_getElem?]
  cases h : L[i]? with
  | none => simp
  | some b => simp
theorem lst_set {L : Array Bool} {i k : Nat} (hi : i < L.size) : Lst (L.setIfInBounds i true) k ↔ k = i ∨ Lst L k := by
  rw [lst_iff, lst_iff, Array.getElem?_setIfInBounds]
  split
  · next h => subst h; simp [hi]
  · next h => constructor
              · exact fun q => .inr q
              · rintro (rfl | q)
                · exact absurd rfl h
                · exact q
def Down (ops : Array Oper) (L : Array Bool) : Prop := ∀ (i : Nat) (o : Oper), ops[i]? = some o → Lst L i → ∀ e ∈ o.after.toList, Region.binds .any e = true → Lst L e.on
theorem anc_lst (h : Static ops C m) {L : Array Bool} (hd : Down ops L) : ∀ (i b : Nat) (o : Oper), ops[i]? = some o → (∀ e ∈ o.after.toList, Region.binds .any e = true → Lst L e.on) → C.anc i b = true → Lst L b := by
  intro i
  induction i using Nat.strongRecOn with
  | _ i ih =>
    intro b o ho he hb
    obtain ⟨e, h1, h2, h3⟩ := h.anc i o b ho hb
    have hl := he e h1 h2
    rcases h3 with rfl | h3
    · exact hl
    · have hlt := h.edge i o ho e h1 h2
      have hsz : i < ops.size := (Array.getElem?_eq_some_iff.1 ho).1
      obtain ⟨o', ho'⟩ : ∃ o', ops[e.on]? = some o' := ⟨ops[e.on], Array.getElem?_eq_getElem (Nat.lt_trans hlt hsz)⟩
      exact ih e.on hlt b o' ho' (hd e.on o' ho' hl) h3
theorem ready_mem {L : Array Bool} {i : Nat} : i ∈ Region.ready .any ops L ↔ i < ops.size ∧ L.getD i true = false ∧ ∃ o, ops[i]? = some o ∧ ∀ e ∈ o.after.toList, Region.binds .any e = true → Lst L e.on := by
  unfold Region.ready
  rw [List.mem_filter, List.mem_range]
  constructor
  · rintro ⟨h1, h2⟩
    simp only [Bool.and_eq_true, Bool.not_eq_true'] at h2
    refine ⟨h1, h2.1, ops[i], Array.getElem?_eq_getElem h1, ?_⟩
    have h3 := h2.2
    rw [Array.getElem?_eq_getElem h1] at h3
    simp only [Option.map_some, Option.getD_some] at h3
    rw [← Array.all_toList, List.all_eq_true] at h3
    intro e he hb
    have := h3 e he
    simpa [hb, Lst] using this
  · rintro ⟨h1, h2, o, ho, h3⟩
    refine ⟨h1, ?_⟩
    simp only [h2, Bool.not_false, Bool.true_and, ho, Option.map_some, Option.getD_some]
    rw [← Array.all_toList, List.all_eq_true]
    intro e he
    cases hb : Region.binds .any e with
    | false => rfl
    | true => simpa [Lst] using h3 e he hb
end
end Go.Proofs.Ytngglgkemonibaa.L
namespace Go.Proofs.Ytngglgkemonibaa.L
open Go Go.RowKit

section
variable {ops : Array Oper} {C : Cert} {m : Nat}
theorem kill_own {v : SV Unit} {d : Nat} (h : d ∉ rootsL v.cs) : v.kill [(d, [])] = v := by
  obtain ⟨k, cs⟩ := v
  simp only [SV.kill, SV.mk.injEq, true_and]
  simp only at h
  refine (List.map_congr_left (g := id) fun x hx => ?_).trans (List.map_id cs)
  have hr : d ∉ x.roots := fun q => h (List.mem_flatMap.2 ⟨x, hx, q⟩)
  unfold SC.kill
  rw [if_neg]
  · rfl
  · simp only [List.any_cons, List.any_nil, Bool.or_false]
    cases x with
    | view r p => simp only [SC.dies, SC.roots, List.mem_singleton] at hr ⊢; simp; exact fun e => hr e.symm
    | win r p lo n f => simp only [SC.dies, SC.roots, List.mem_singleton] at hr ⊢; simp; exact fun e => hr e.symm
    | ref r p off => simp only [SC.dies, SC.roots, List.mem_singleton] at hr ⊢; simp; exact fun e => hr e.symm
    | _ => simp [SC.dies]

/-- What holds of the orders so far. -/
structure Sofar (P : Program) (E : Env) (N : Nat) (ops : Array Oper) (C : Cert) (m : Nat) (σ' : St Unit) (L : Array Bool) (j : Nat) (S : St Unit) (rest : List (List Nat × List Nat)) (σ : St Unit) : Prop where
  size : L.size = ops.size
  down : Down ops L
  wrs : ∀ (k w : Nat), C.ws[k]? = some w → (Lst L w ↔ k < j)
  ph : PhaseOk P E N ops C j S
  tail : Tail P E N ops C j rest S σ'
  plan : ∀ (q : Nat) pl, rest[q]? = some pl → PlanAt C (j + 1 + q) pl
  count : j + rest.length = m
  agree : ∀ s, (∀ (i : Nat) (o : Oper) (lo hi : Nat), ops[i]? = some o → C.roles[i]? = some (.fn lo hi) → o.dst = some s → Lst L i) → σ.get s = S.get s

theorem all_listed (h : Static ops C m) {L : Array Bool} (hr : Region.ready .any ops L = []) (hs : L.size = ops.size) : ∀ i, i < ops.size → Lst L i := by
  intro i
  induction i using Nat.strongRecOn with
  | _ i ih =>
    intro hi
    cases hb : L[i]? with
    | none => rw [Array.getElem?_eq_none_iff] at hb; omega
    | some b =>
      cases b with
      | true => exact lst_iff.2 hb
      | false =>
        exfalso
        have : i ∈ Region.ready .any ops L := by
          refine ready_mem.2 ⟨hi, by rw [Array.getD_eq_getD_getElem?, hb]; rfl, ops[i], Array.getElem?_eq_getElem hi, ?_⟩
          intro e he hbind
          have hlt := h.edge i ops[i] (Array.getElem?_eq_getElem hi) e he hbind
          exact ih e.on hlt (Nat.lt_trans hlt hi)
        rw [hr] at this
        cases this
theorem sofar_end (h : Static ops C m) {P : Program} {E : Env} {N : Nat} {σ' σ S : St Unit} {L : Array Bool} {j : Nat} {rest : List (List Nat × List Nat)} (hs : Sofar P E N ops C m σ' L j S rest σ) (hr : Region.ready .any ops L = []) : ∀ s, σ.get s = σ'.get s := by
  have hall := all_listed h hr hs.size
  have hS : S = σ' := by
    rcases hs.tail with ⟨_, e⟩ | ⟨hne, i, o, e, hi, ho, _⟩
    · exact e
    · exfalso
      have := (hs.wrs j i hi).1 (hall i (Array.getElem?_eq_some_iff.1 ho).1)
      omega
  subst hS
  intro s
  exact hs.agree s fun i o lo hi ho _ _ => hall i (Array.getElem?_eq_some_iff.1 ho).1

theorem draw_any {P : Program} {E : Env} (hE : EnvOk P E) {N : Nat} (h : Static ops C m) {w0 : World} {ds : List Deferred} {σ' : St Unit} {Q : Exit → Act → World → Prop}
    (hq : ∀ σF tm' w', (∀ s, σF.get s = σ'.get s) → Rel w0 N σF tm' w' → Q .normal ⟨tm', ds⟩ w') :
    ∀ (fuel : Nat) (L : Array Bool) (j : Nat) (S : St Unit) (rest : List (List Nat × List Nat)) (σ : St Unit) (tm : Array Value) (w : World),
      cntF L.toList ≤ fuel → Sofar P E N ops C m σ' L j S rest σ → Rel w0 N σ tm w → wpAny P .any ops Q fuel L ⟨tm, ds⟩ w := by
  intro fuel
  induction fuel with
  | zero =>
    intro L j S rest σ tm w hc hs hrel
    have hr : Region.ready .any ops L = [] := by
      rw [List.eq_nil_iff_forall_not_mem]
      intro i hi
      obtain ⟨h1, h2, _⟩ := ready_mem.1 hi
      have hz := cntF_zero L.toList (by omega)
      cases hb : L[i]? with
      | none => rw [Array.getElem?_eq_none_iff] at hb; have := hs.size; omega
      | some b =>
        rw [Array.getD_eq_getD_getElem?, hb] at h2
        simp only [Option.getD_some] at h2
        subst h2
        have := hz false (by rw [← Array.getElem?_toList] at hb; exact List.mem_of_getElem? hb)
        cases this
    exact ⟨hr, hq σ tm w (sofar_end h hs hr) hrel⟩
  | succ fuel ih =>
    intro L j S rest σ tm w hc hs hrel
    refine ⟨fun hr => hq σ tm w (sofar_end h hs hr) hrel, ?_⟩
    intro i hi
    obtain ⟨hsz, hfalse, o, ho, hedges⟩ := ready_mem.1 hi
    have hLi : L[i]? = some false := by
      cases hb : L[i]? with
      | none => rw [Array.getElem?_eq_none_iff] at hb; have := hs.size; omega
      | some b => rw [Array.getD_eq_getD_getElem?, hb] at hfalse; simp only [Option.getD_some] at hfalse; rw [hfalse]
    have hnot : ¬ Lst L i := by rw [lst_iff, hLi]; simp
    have hsL : i < L.size := by rw [hs.size]; exact hsz
    have hcnt : cntF (L.setIfInBounds i true).toList ≤ fuel := by
      have := cntF_set L.toList i (by rw [Array.getElem?_toList]; exact hLi)
      rw [Array.toList_setIfInBounds]
      omega
    have hanc : ∀ b, C.anc i b = true → Lst L b := fun b hb => anc_lst h hs.down i b o ho hedges hb
    have hancL : ∀ k b, k < ops.size → Lst L k → C.anc k b = true → Lst L b := fun k b hk hl hb => anc_lst h hs.down k b ops[k] (Array.getElem?_eq_getElem hk) (hs.down k _ (Array.getElem?_eq_getElem hk) hl) hb
    have hdown : Down ops (L.setIfInBounds i true) := by
      intro k o' ho' hk e he hb
      rw [lst_set hsL] at hk ⊢
      rcases hk with rfl | hk
      · rw [ho] at ho'; cases ho'; exact .inr (hedges e he hb)
      · exact .inr (hs.down k o' ho' hk e he hb)
    unfold wpOp
    rw [ho]
    simp only
    have hrole : ∃ ro, C.roles[i]? = some ro := ⟨_, List.getElem?_eq_getElem (by rw [h.size]; exact hsz)⟩
    obtain ⟨ro, hro⟩ := hrole
    -- slots that i may read are filled as in S
    have hread : ∀ s, okRead C i s = true → σ.get s = S.get s := by
      intro s hs'
      refine hs.agree s fun k o' lo hi hk hkr hds => ?_
      obtain ⟨_, _, ⟨d1, hd1, hD1⟩, _, _⟩ := h.fn k o' lo hi hk hkr
      rw [hds] at hd1; cases hd1
      unfold okRead at hs'
      rw [hD1] at hs'
      exact hanc k hs'
    cases ro with
    | fn lo hi =>
      obtain ⟨hlh, hhm, ⟨d, hd, hD⟩, hlow, hhigh⟩ := h.fn i o lo hi ho hro
      have hlo : lo ≤ j := by
        rcases Nat.lt_or_ge j lo with hlt | hge
        · exfalso
          obtain ⟨w1, hw1, hw2⟩ := hlow j hlt
          have := (hs.wrs j w1 hw1).1 (hanc w1 hw2)
          omega
        · exact hge
      have hhi : j ≤ hi := by
        rcases Nat.lt_or_ge hi j with hlt | hge
        · exfalso
          have hjm : j ≤ m := by have := hs.count; omega
          obtain ⟨w1, hw1, hw2⟩ := hhigh (by omega)
          have hl := (hs.wrs hi w1 hw1).2 hlt
          have hsw : w1 < ops.size := by
            have := h.ws hi w1 hw1
            have := (List.getElem?_eq_some_iff.1 this).1
            rw [h.size] at this; exact this
          exact hnot (hancL w1 i hsw hl hw2)
        · exact hge
      obtain ⟨he, hrd⟩ := hs.ph.eff i o d lo hi ho hro hd hlo hhi
      have hag : Agree (rdO S ops o) S σ := fun s hs' => hread s (hrd s hs')
      have he' : stepEff P E N ops σ o = some (effPut d (S.get d)) := by rw [stepEff_fr hag, he]
      refine step_ok hE hrel (stepOp_eff he') ?_
      intro tm' w' hrel'
      refine ih _ j S rest _ tm' w' hcnt ?_ hrel'
      have hnod : ∀ s, (∀ (k : Nat) (o' : Oper) (lo hi : Nat), ops[k]? = some o' → C.roles[k]? = some (.fn lo hi) → o'.dst = some s → Lst (L.setIfInBounds i true) k) → d ∉ rootsL (S.get s).cs := by
        intro s hfill hmem
        obtain ⟨g, hg1, hg2⟩ := hs.ph.roots i o d lo hi s ho hro hd hlo hhi hmem
        obtain ⟨o', lo', hi', hg3, hg4, hg5⟩ := h.filled s g hg1
        have hl := hfill g o' lo' hi' hg3 hg4 hg5
        have hgs : g < ops.size := (Array.getElem?_eq_some_iff.1 hg3).1
        rw [lst_set hsL] at hl
        rcases hl with rfl | hl
        · have := anc_lt h g g hgs hg2; omega
        · exact hnot (hancL g i hgs hl hg2)
      refine ⟨by simpa using hs.size, hdown, ?_, hs.ph, hs.tail, hs.plan, hs.count, ?_⟩
      · intro k w1 hw1
        rw [lst_set hsL]
        constructor
        · rintro (rfl | hl)
          · have := h.ws k w1 hw1; rw [hro] at this; cases this
          · exact (hs.wrs k w1 hw1).1 hl
        · exact fun q => .inr ((hs.wrs k w1 hw1).2 q)
      · intro s hfill
        have hkill := kill_own (hnod s hfill)
        show (St.app σ (effPut d (S.get d))).get s = S.get s
        have happ : (St.app σ (effPut d (S.get d))).get s = ((σ.put d (S.get d)).get s).kill [(d, [])] := by
          show ((σ.put d (S.get d)).kill [(d, [])]).get s = _
          rw [get_kill]
        rw [happ, get_put]
        by_cases hsd : s = d
        · subst hsd; rw [if_pos rfl]; exact hkill
        · rw [if_neg hsd]
          rw [hs.agree s fun k o' lo' hi' hk hkr hds => ?_]
          · exact hkill
          · have hl := hfill k o' lo' hi' hk hkr hds
            rw [lst_set hsL] at hl
            rcases hl with rfl | hl
            · rw [ho] at hk; cases hk
              rw [hd] at hds; cases hds
              exact absurd rfl hsd
            · exact hl
    | wr k =>
      obtain ⟨hk1, hkm⟩ := h.wr i k hro
      have hkj : j ≤ k := by
        rcases Nat.lt_or_ge k j with hlt | hge
        · exact absurd ((hs.wrs k i hk1).2 hlt) hnot
        · exact hge
      have hjk : k = j := by
        rcases Nat.lt_or_ge j k with hlt | hge
        · exfalso
          obtain ⟨q, rfl⟩ : ∃ q, k = q + 1 := ⟨k - 1, by omega⟩
          have hqm : q < C.ws.length := by rw [h.len]; omega
          have hw := List.getElem?_eq_getElem hqm
          have := h.chain q _ i hw hk1
          have := (hs.wrs q _ hw).1 (hanc _ this)
          omega
        · omega
      subst hjk
      rcases hs.tail with ⟨hnil, _⟩ | ⟨hne, i', o', e, hi', ho', he, hrd, hrun⟩
      · have := hs.count; rw [hnil] at this; simp at this; omega
      · rw [hk1] at hi'; cases hi'
        rw [ho] at ho'; cases ho'
        have hag : Agree (rdO S ops o) S σ := fun s hs' => hread s (hrd s hs')
        have he' : stepEff P E N ops σ o = some e := by rw [stepEff_fr hag, he]
        refine step_ok hE hrel (stepOp_eff he') ?_
        intro tm' w' hrel'
        cases rest with
        | nil => exact absurd rfl hne
        | cons pl rest =>
          obtain ⟨S1, hph, htail⟩ := drawRun_cons hrun
          obtain ⟨hok, hkeep⟩ := phase_ok h (hs.plan 0 pl rfl) hph
          refine ih _ (k + 1) S1 rest _ tm' w' hcnt ?_ hrel'
          refine ⟨by simpa using hs.size, hdown, ?_, hok, htail, ?_, ?_, ?_⟩
          · intro q w1 hw1
            rw [lst_set hsL]
            constructor
            · rintro (rfl | hl)
              · have h1 := h.ws q w1 hw1
                rw [hro] at h1
                simp only [Option.some.injEq, Role.wr.injEq] at h1
                omega
              · have := (hs.wrs q w1 hw1).1 hl; omega
            · intro hq
              rcases Nat.lt_or_ge q k with hlt | hge
              · exact .inr ((hs.wrs q w1 hw1).2 hlt)
              · have : q = k := by omega
                subst this
                rw [hk1] at hw1; cases hw1
                exact .inl rfl
          · intro q pl' hq'
            have := hs.plan (q + 1) pl' (by simpa using hq')
            rwa [show k + 1 + (q + 1) = k + 1 + 1 + q by omega] at this
          · have := hs.count; simp at this; omega
          · intro s hfill
            have hnotfresh : ∀ (i1 : Nat) (o1 : Oper) (hi1 : Nat), ops[i1]? = some o1 → C.roles[i1]? = some (.fn (k + 1 + 0) hi1) → o1.dst ≠ some s := by
              intro i1 o1 hi1 hi1o hi1r hds
              have hl := hfill i1 o1 _ hi1 hi1o hi1r hds
              rw [lst_set hsL] at hl
              rcases hl with rfl | hl
              · rw [hro] at hi1r; cases hi1r
              · obtain ⟨_, _, _, hlow, _⟩ := h.fn i1 o1 _ hi1 hi1o hi1r
                obtain ⟨w1, hw1, hw2⟩ := hlow k (by omega)
                rw [hk1] at hw1; cases hw1
                exact hnot (hancL i1 i (Array.getElem?_eq_some_iff.1 hi1o).1 hl hw2)
            rw [hkeep s hnotfresh]
            refine app_congr (hs.agree s fun k' o' lo' hi' hk' hkr hds => ?_) e
            have hl := hfill k' o' lo' hi' hk' hkr hds
            rw [lst_set hsL] at hl
            rcases hl with rfl | hl
            · rw [hro] at hkr; cases hkr
            · exact hl

/-- A drawn region. -/
theorem draw_region {P : Program} {E : Env} (hE : EnvOk P E) (hm : P.follows .mixedOrders = true) {N id : Nat} (h : Static ops C m) {plan : List (List Nat × List Nat)} (hlen : plan.length = m + 1) (hplan : ∀ (q : Nat) pl, plan[q]? = some pl → PlanAt C q pl)
    {w0 w : World} {ds : List Deferred} {Q : Exit → Act → World → Prop} {σ σ' : St Unit} {tm : Array Value} (hrel : Rel w0 N σ tm w) (hs : drawRun P E N ops C 0 plan σ = some σ')
    (hq : ∀ σF tm' w', (∀ s, σF.get s = σ'.get s) → Rel w0 N σF tm' w' → Q .normal ⟨tm', ds⟩ w') : (Code.region id ops true).wp P Q ⟨tm, ds⟩ w := by
  refine wp_region_any hm ?_
  cases plan with
  | nil => simp at hlen
  | cons pl rest =>
    obtain ⟨S, hph, htail⟩ := drawRun_cons hs
    obtain ⟨hok, hkeep⟩ := phase_ok h (hplan 0 pl rfl) hph
    have hL : ∀ i, ¬ Lst (Array.replicate ops.size false) i := by
      intro i hi
      rw [lst_iff, Array.getElem?_replicate] at hi
      split at hi <;> simp at hi
    refine draw_any hE h hq ops.size _ 0 S rest σ tm _ ?_ ?_ ?_
    · rw [Array.toList_replicate, cntF_rep]; exact Nat.le_refl _
    · refine ⟨by simp, fun i o _ hl => absurd hl (hL i), fun k w _ => ⟨fun hl => absurd hl (hL w), fun hk => by omega⟩, hok, htail, ?_, by simp at hlen; omega, ?_⟩
      · intro q pl' hq'
        have := hplan (q + 1) pl' (by simpa using hq')
        rwa [show 0 + 1 + q = q + 1 by omega]
      · intro s hfill
        refine (hkeep s fun i o hi ho hr hd => ?_).symm
        exact hL i (hfill i o 0 hi ho hr hd)
    · obtain ⟨Γ, h1, h2, h3⟩ := hrel
      exact ⟨Γ, h1, h2.world ⟨rfl, rfl, rfl, Nat.le_refl _, fun _ _ => rfl⟩ (fun _ _ _ => rfl) (fun _ _ => rfl), h3⟩
end
end Go.Proofs.Ytngglgkemonibaa.L
namespace Go.Proofs.Ytngglgkemonibaa.L
open Go Go.RowKit

section
variable {α : Type}
/-- The slots of K, in this order; the rest is forgotten. -/
def St.pick (K : List Nat) (σ : St α) : St α := K.map fun s => (s, (σ.get s).only K)
theorem lookup_map_self {β : Type} (f : Nat → β) (t : Nat) : ∀ K : List Nat, (K.map fun s => (s, f s)).lookup t = if K.contains t then some (f t) else none
  | [] => rfl
  | s :: K => by
    simp only [List.map_cons, List.lookup, List.contains_cons]
    by_cases h : t = s
    · subst h; simp
    · have hb : (t == s) = false := by simpa using h
      rw [hb, lookup_map_self f t K]
      simp
theorem get_pick (K : List Nat) (σ : St α) (t : Nat) : (St.pick K σ).get t = if K.contains t then (σ.get t).only K else SV.dead := by
  unfold St.get St.pick
  rw [lookup_map_self (fun s => (St.get σ s).only K)]
  split
  · next v hv =>
    split at hv
    · next hk => rw [if_pos hk]; simp only [Option.some.injEq] at hv; exact hv.symm
    · cases hv
  · next hv =>
    split at hv
    · cases hv
    · next hk => rw [if_neg hk]
theorem onlySV_erase (K : List Nat) (v : SV α) : (v.only K).erase = v.erase.only K := by
  have hsc : ∀ x : SC α, (SC.only K x).erase = SC.only K x.erase := by
    intro x
    cases x with
    | view r p =>
      by_cases hr : K.contains r = true
      · simp only [SC.only, SC.erase, if_pos hr]
      · simp only [SC.only, SC.erase, if_neg hr]
    | win r p lo n f =>
      by_cases hr : K.contains r = true
      · simp only [SC.only, SC.erase, if_pos hr]
      · simp only [SC.only, SC.erase, if_neg hr]
    | ref r p off =>
      by_cases hr : K.contains r = true
      · simp only [SC.only, SC.erase, if_pos hr]
      · simp only [SC.only, SC.erase, if_neg hr]
    | _ => rfl
  simp [SV.only, SV.erase, hsc]
theorem pick_erase (K : List Nat) (σ : St α) : (St.pick K σ).erase = St.pick K σ.erase := by
  unfold St.pick St.erase
  rw [List.map_map]
  refine List.map_congr_left fun s _ => ?_
  simp only [Function.comp, onlySV_erase]
  have := get_erase σ s
  unfold St.erase at this
  rw [this]
theorem pick_congr {K : List Nat} {σ σ' : St α} (h : ∀ s, σ'.get s = σ.get s) : St.pick K σ' = St.pick K σ := by
  unfold St.pick
  exact List.map_congr_left fun s _ => by rw [h s]
end
theorem Rel.pick {w0 w : World} {N : Nat} {σ : St Unit} {tm : Array Value} (h : Rel w0 N σ tm w) (K : List Nat) : Rel w0 N (St.pick K σ) tm w := by
  obtain ⟨Γ, h1, h2, h3⟩ := h
  exact ⟨St.pick K Γ, by rw [pick_erase, h1], (h2.only K).congr (fun s => by rw [get_pick, get_only]), h3⟩

/-! ### the shape of a region -/
def maskOf (A : List Nat) (l : List Edge) : Nat → Nat := l.foldl fun s e => if Region.binds .any e = true then s ||| (2 ^ e.on ||| A.getD e.on 0) else s
theorem mask_bit (A : List Nat) (b : Nat) : ∀ (l : List Edge) (s : Nat), (maskOf A l s).testBit b = true → s.testBit b = true ∨ ∃ e ∈ l, Region.binds .any e = true ∧ (b = e.on ∨ (A.getD e.on 0).testBit b = true)
  | [], s, h => .inl h
  | e :: l, s, h => by
    have h' : (maskOf A l (if Region.binds .any e = true then s ||| (2 ^ e.on ||| A.getD e.on 0) else s)).testBit b = true := h
    rcases mask_bit A b l _ h' with h1 | ⟨e', h1, h2⟩
    · split at h1
      · next hb =>
        rw [Nat.testBit_or, Nat.testBit_or, Bool.or_eq_true, Bool.or_eq_true, Nat.testBit_two_pow] at h1
        rcases h1 with h1 | h1 | h1
        · exact .inl h1
        · exact .inr ⟨e, by simp, hb, .inl (by simpa [eq_comm] using h1)⟩
        · exact .inr ⟨e, by simp, hb, .inr h1⟩
      · exact .inl h1
    · exact .inr ⟨e', by simp [h1], h2⟩

def ancAt (C : Cert) (i : Nat) : Option Nat → Bool
  | some w => C.anc i w
  | none => false
def opOk (ops : Array Oper) (C : Cert) (m i : Nat) (o : Oper) (r : Role) : Bool :=
  o.after.toList.all (fun e => !Region.binds .any e || decide (e.on < i)) && decide (C.A.getD i 0 = maskOf C.A o.after.toList 0) &&
  match r with
  | .fn lo hi => decide (lo ≤ hi) && decide (hi ≤ m) && (match o.dst with
    | some d => decide (C.D.lookup d = some i)
    | none => false) && (List.range lo).all (fun k => ancAt C i C.ws[k]?) && (decide (m ≤ hi) || (match C.ws[hi]? with
      | some w => C.anc w i
      | none => false)) && (List.range C.roles.length).all (fun k => match C.roles[k]? with
        | some (.fn lo' _) => !C.anc i k || decide (lo' ≤ lo)
        | _ => true)
  | .wr k => decide (C.ws[k]? = some i) && decide (k < m)
def opsOk (ops : Array Oper) (C : Cert) (m : Nat) : Nat → List Oper → List Role → Bool
  | _, [], [] => true
  | i, o :: l, r :: rs => opOk ops C m i o r && opsOk ops C m (i + 1) l rs
  | _, _, _ => false
def wsOk (C : Cert) (m : Nat) : Bool := decide (C.ws.length = m) && (List.range m).all (fun k => (match C.ws[k]? with
    | some w => (match C.roles[w]? with
      | some (.wr k') => decide (k' = k)
      | _ => false)
    | none => false) && (match C.ws[k]?, C.ws[k + 1]? with
    | some w, some w' => C.anc w' w
    | _, _ => true))
def dOk (ops : Array Oper) (C : Cert) : Bool := C.D.all fun x => match ops[x.2]?, C.roles[x.2]? with
  | some o, some (.fn _ _) => decide (o.dst = some x.1)
  | _, _ => false
def freshL (C : Cert) (j : Nat) : List Nat := (List.range C.roles.length).filter fun i => match C.roles[i]? with
  | some (.fn lo _) => decide (lo = j)
  | _ => false
def againL (C : Cert) (j : Nat) : List Nat := (List.range C.roles.length).filter fun i => match C.roles[i]? with
  | some (.fn lo hi) => decide (lo < j) && decide (j ≤ hi)
  | _ => false
def planOk (C : Cert) (plan : List (List Nat × List Nat)) (m : Nat) : Bool := decide (plan = (List.range (m + 1)).map fun j => (freshL C j, againL C j))
def staticB (ops : Array Oper) (C : Cert) (plan : List (List Nat × List Nat)) : Bool :=
  opsOk ops C C.ws.length 0 ops.toList C.roles && wsOk C C.ws.length && dOk ops C && planOk C plan C.ws.length

theorem opsOk_len {ops : Array Oper} {C : Cert} {m : Nat} : ∀ (l : List Oper) (rs : List Role) (i : Nat), opsOk ops C m i l rs = true → l.length = rs.length
  | [], [], _, _ => rfl
  | o :: l, r :: rs, i, h => by simp only [opsOk, Bool.and_eq_true] at h; simp [opsOk_len l rs (i + 1) h.2]
  | [], r :: rs, _, h => by simp [opsOk] at h
  | o :: l, [], _, h => by simp [opsOk] at h
theorem opsOk_get {ops : Array Oper} {C : Cert} {m : Nat} : ∀ (l : List Oper) (rs : List Role) (i k : Nat) (o : Oper) (r : Role), opsOk ops C m i l rs = true → l[k]? = some o → rs[k]? = some r → opOk ops C m (i + k) o r = true
  | [], _, _, k, o, r, _, h, _ => by simp at h
  | o' :: l, [], _, _, _, _, h, _, _ => by simp [opsOk] at h
  | o' :: l, r' :: rs, i, 0, o, r, h, h1, h2 => by
    simp only [opsOk, Bool.and_eq_true] at h
    simp only [List.getElem?_cons_zero, Option.some.injEq] at h1 h2
    subst h1; subst h2
    exact h.1
  | o' :: l, r' :: rs, i, k + 1, o, r, h, h1, h2 => by
    simp only [opsOk, Bool.and_eq_true] at h
    have := opsOk_get l rs (i + 1) k o r h.2 (by simpa using h1) (by simpa using h2)
    rwa [show i + 1 + k = i + (k + 1) by omega] at this
theorem lookup_mem {β : Type} {s : Nat} {v : β} : ∀ {l : List (Nat × β)}, l.lookup s = some v → (s, v) ∈ l
  | [], h => by cases h
  | (t, u) :: l, h => by
    simp only [List.lookup] at h
    split at h
    · next he =>
      simp only [Option.some.injEq] at h
      have : s = t := by simpa using he
      subst this; subst h; simp
    · exact List.mem_cons_of_mem _ (lookup_mem h)

theorem static_ok {ops : Array Oper} {C : Cert} {plan : List (List Nat × List Nat)} (h : staticB ops C plan = true) : Static ops C C.ws.length ∧ plan.length = C.ws.length + 1 ∧ ∀ (q : Nat) pl, plan[q]? = some pl → PlanAt C q pl := by
  simp only [staticB, Bool.and_eq_true] at h
  obtain ⟨⟨⟨h1, h2⟩, h3⟩, h4⟩ := h
  have hlen : C.roles.length = ops.size := by have := opsOk_len _ _ _ h1; simpa using this.symm
  have hop : ∀ (i : Nat) (o : Oper) (r : Role), ops[i]? = some o → C.roles[i]? = some r → opOk ops C C.ws.length i o r = true := by
    intro i o r ho hr
    have := opsOk_get ops.toList C.roles 0 i o r h1 (by simpa using ho) hr
    rwa [Nat.zero_add] at this
  have hr : ∀ (i : Nat) (o : Oper), ops[i]? = some o → ∃ r, C.roles[i]? = some r := by
    intro i o ho
    exact ⟨_, List.getElem?_eq_getElem (by rw [hlen]; exact (Array.getElem?_eq_some_iff.1 ho).1)⟩
  simp only [wsOk, Bool.and_eq_true, decide_eq_true_eq, true_and] at h2
  rw [List.all_eq_true] at h2
  have hws : ∀ (k w : Nat), C.ws[k]? = some w → C.roles[w]? = some (.wr k) ∧ ∀ w', C.ws[k + 1]? = some w' → C.anc w' w = true := by
    intro k w hk
    have hlt := (List.getElem?_eq_some_iff.1 hk).1
    have := h2 k (List.mem_range.2 hlt)
    simp only [hk, Bool.and_eq_true] at this
    refine ⟨?_, ?_⟩
    · have q := this.1
      split at q
      · next k' hk' => rw [hk']; simp only [decide_eq_true_eq] at q; rw [q]
      · cases q
    · intro w' hw'
      have q := this.2
      rw [hw'] at q
      exact q
  refine ⟨⟨hlen, ?_, ?_, ?_, ?_, fun k w hk => (hws k w hk).1, fun k w w' hk hk' => (hws k w hk).2 w' hk', rfl, ?_, ?_⟩, ?_, ?_⟩
  · intro i o ho e he hb
    obtain ⟨r, hr⟩ := hr i o ho
    have := hop i o r ho hr
    simp only [opOk, Bool.and_eq_true] at this
    have := List.all_eq_true.1 this.1.1 e he
    simpa [hb] using this
  · intro i o b ho hb
    obtain ⟨r, hr⟩ := hr i o ho
    have := hop i o r ho hr
    simp only [opOk, Bool.and_eq_true, decide_eq_true_eq] at this
    have hm := this.1.2
    unfold Cert.anc at hb
    rw [hm] at hb
    rcases mask_bit C.A b _ _ hb with q | ⟨e, q1, q2, q3⟩
    · simp at q
    · exact ⟨e, q1, q2, q3⟩
  · intro i o lo hi ho hrole
    have := hop i o _ ho hrole
    simp only [opOk, Bool.and_eq_true, decide_eq_true_eq, Bool.or_eq_true] at this
    obtain ⟨_, ⟨⟨⟨⟨q1, q2⟩, q3⟩, q4⟩, q5⟩, _⟩ := this
    refine ⟨q1, q2, ?_, ?_, ?_⟩
    · split at q3
      · next d hd => exact ⟨d, hd, by simpa using q3⟩
      · cases q3
    · intro k hk
      have := List.all_eq_true.1 q4 k (List.mem_range.2 hk)
      unfold ancAt at this
      split at this
      · next w hw => exact ⟨w, hw, this⟩
      · cases this
    · intro hlt
      rcases q5 with q5 | q5
      · omega
      · split at q5
        · next w hw => exact ⟨w, hw, q5⟩
        · cases q5
  · intro i k hrole
    have hlt : i < ops.size := by rw [← hlen]; exact (List.getElem?_eq_some_iff.1 hrole).1
    have := hop i ops[i] _ (Array.getElem?_eq_getElem hlt) hrole
    simp only [opOk, Bool.and_eq_true, decide_eq_true_eq] at this
    exact this.2
  · intro i k lo hi lo' hi' hri hrk hanc
    have hlt : i < ops.size := by rw [← hlen]; exact (List.getElem?_eq_some_iff.1 hri).1
    have := hop i ops[i] _ (Array.getElem?_eq_getElem hlt) hri
    simp only [opOk, Bool.and_eq_true] at this
    obtain ⟨_, _, q6⟩ := this
    have := List.all_eq_true.1 q6 k (List.mem_range.2 (List.getElem?_eq_some_iff.1 hrk).1)
    simpa [hrk, hanc] using this
  · intro s g hg
    have := List.all_eq_true.1 h3 _ (lookup_mem hg)
    simp only at this
    split at this
    · next o lo hi ho hro => exact ⟨o, lo, hi, ho, hro, by simpa using this⟩
    · cases this
  · simp only [planOk, decide_eq_true_eq] at h4
    rw [h4]; simp
  · intro q pl hq
    simp only [planOk, decide_eq_true_eq] at h4
    rw [h4, List.getElem?_map] at hq
    cases hq' : (List.range (C.ws.length + 1))[q]? with
    | none => rw [hq'] at hq; cases hq
    | some q' =>
      have : q' = q := by
        have hlt := (List.getElem?_eq_some_iff.1 hq').1
        rw [List.getElem?_range (by simpa using hlt)] at hq'
        simpa using hq'.symm
      subst this
      rw [hq'] at hq
      simp only [Option.map_some, Option.some.injEq] at hq
      subst hq
      refine ⟨?_, ?_, ?_⟩
      · intro i
        simp only [freshL, List.mem_filter, List.mem_range]
        constructor
        · rintro ⟨_, h⟩
          split at h
          · next lo hi he => simp only [decide_eq_true_eq] at h; subst h; exact ⟨hi, he⟩
          · cases h
        · rintro ⟨hi, he⟩
          exact ⟨(List.getElem?_eq_some_iff.1 he).1, by rw [he]; simp⟩
      · exact List.Pairwise.filter _ List.pairwise_lt_range
      · intro i lo hi he h1 h2
        simp only [againL, List.mem_filter, List.mem_range]
        exact ⟨(List.getElem?_eq_some_iff.1 he).1, by rw [he]; simp [h1, h2]⟩

/-! ### tables -/
structure RC where
  keep : List Nat
  cert : Cert
  plan : List (List Nat × List Nat)
/-- In order; in any order with no writer. -/
abbrev RC.s (keep : List Nat) : RC := ⟨keep, ⟨[], [], [], []⟩, []⟩
def RC.d (keep A dsts : List Nat) : RC := ⟨keep, ⟨A, dsts.map fun _ => .fn 0 0, [], dsts.zipIdx⟩, [(List.range dsts.length, [])]⟩
def regOf (P : Program) (E : Env) (N : Nat) (tab : List (Nat × RC)) : Reg := fun id ops draw σ => match tab.lookup id with
  | some rc => if draw = true then match drawRun P E N ops rc.cert 0 rc.plan σ with
      | some σ' => some (St.pick rc.keep σ')
      | none => none
    else match seqL P E N ops ops.toList σ with
      | some σ' => some (St.pick rc.keep σ')
      | none => none
  | none => none
def tabT (tab : List (Nat × RC)) : Nat → Array Oper → Bool → Bool := fun id ops draw => !draw || match tab.lookup id with
  | some rc => staticB ops rc.cert rc.plan
  | none => true
theorem regOf_ok {P : Program} {E : Env} (hE : EnvOk P E) (hm : P.follows .mixedOrders = true) (N : Nat) (tab : List (Nat × RC)) : RegOk P N (regOf P E N tab) (tabT tab) := by
  intro w0 w id ops draw σ σ' tm ds Q hT hr hrel hq
  unfold regOf at hr
  unfold tabT at hT
  cases ht : tab.lookup id with
  | none => rw [ht] at hr; cases hr
  | some rc =>
    rw [ht] at hr hT
    simp only at hr hT
    cases draw with
    | true =>
      simp only [if_true, Bool.not_true, Bool.false_or] at hr hT
      split at hr
      · next σ1 h1 =>
        simp only [Option.some.injEq] at hr
        subst hr
        obtain ⟨a1, a2, a3⟩ := static_ok hT
        refine draw_region hE hm a1 a2 a3 hrel h1 ?_
        intro σF tm' w' hF hrel'
        have := hrel'.pick rc.keep
        rw [pick_congr hF] at this
        exact hq tm' w' this
      · cases hr
    | false =>
      simp only [Bool.false_eq_true, if_false] at hr
      split at hr
      · next σ1 h1 =>
        simp only [Option.some.injEq] at hr
        subst hr
        exact seq_region hE hrel h1 fun tm' w' h2 => hq tm' w' (h2.pick rc.keep)
      · cases hr

abbrev Tabs := List (Nat × List (Nat × RC))
def tabAt (tabs : Tabs) (f : Nat) : List (Nat × RC) := match tabs.lookup f with
  | some t => t
  | none => []
def bodyAll (P : Program) (T : Nat → Array Oper → Bool → Bool) (f : FuncId) : Bool := match P.funcs[f]? with
  | some fn => match fn.body with
    | some c => codeAll T c
    | none => true
  | none => true
/-- All the drawn regions' shapes. -/
def tabsOk (P : Program) (tabs : Tabs) : Bool := P.follows .mixedOrders && tabs.all fun x => bodyAll P (tabT x.2) x.1
def fnRun (P : Program) (E : Env) (tabs : Tabs) (n : Nat) (f : FuncId) (as : List (SV Unit)) : Option (SV Unit) := match tabs.lookup f with
  | some t => funRun P (fun _ N => regOf P E N t) n f as
  | none => none
theorem fnRun_ok {P : Program} {E : Env} (hE : EnvOk P E) {tabs : Tabs} (ht : tabsOk P tabs = true) {n : Nat} {f : FuncId} {as : List (SV Unit)} {r : SV Unit} (h : fnRun P E tabs n f as = some r) : Good P f as r := by
  simp only [tabsOk, Bool.and_eq_true] at ht
  unfold fnRun at h
  split at h
  · next t hl =>
    refine good_of_run (reg := fun _ N => regOf P E N t) (T := tabT t) (fun N => regOf_ok hE ht.1 N t) ?_ h
    intro fn c hf hc
    have := List.all_eq_true.1 ht.2 _ (lookup_mem hl)
    simp only [bodyAll, hf, hc] at this
    exact this
  · cases h
/-- What is known, then what can be run, to a depth. -/
def envN (P : Program) (tabs : Tabs) (ext : Env) (n : Nat) : Nat → Env
  | 0 => ext
  | k + 1 => fun f as => match ext f as with
    | some r => some r
    | none => fnRun P (envN P tabs ext n k) tabs n f as
theorem envN_ok {P : Program} {tabs : Tabs} (ht : tabsOk P tabs = true) {ext : Env} (hx : EnvOk P ext) {n : Nat} : ∀ k, EnvOk P (envN P tabs ext n k)
  | 0 => hx
  | k + 1 => by
    intro f as r h
    simp only [envN] at h
    split at h
    · next r' h' => simp only [Option.some.injEq] at h; subst h; exact hx f as r' h'
    · exact fnRun_ok (envN_ok ht hx k) ht h
end Go.Proofs.Ytngglgkemonibaa.L
