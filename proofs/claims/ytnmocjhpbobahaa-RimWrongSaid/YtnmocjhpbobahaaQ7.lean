/- M31: regions by a table; functions by a table. -/
import Derived.Test.YtnmocjhpbobahaaQ5
import Derived.Test.YtnmocjhpbobahaaQ6
set_option linter.unusedVariables false
set_option linter.unusedSimpArgs false
set_option linter.unnecessarySimpa false
namespace Go.Proofs.Ytnmocjhpbobahaa.L
open Go Go.RowKit

section
variable {α : Type}
/-- The slots of K, in this order; the rest is forgotten. -/
def St.pick (K : List Nat) (σ : St α) : St α := K.map fun s => (s, (σ.get s).only K)
theorem lookup_map_self {β : Type} (f : Nat → β) (t : Nat) : ∀ K : List Nat, (K.map fun s => (s, f s)).lookup t = if K.contains t then some (f t) else none
  | [] => rfl
  | s :: K => by
    simp only [List.map_cons, List.lookup, List.contains_cons]
    by_cases h : t = s
    · subst h; simp
    · have hb : (t == s) = false := by simpa using h
      rw [hb, lookup_map_self f t K]
      simp
theorem get_pick (K : List Nat) (σ : St α) (t : Nat) : (St.pick K σ).get t = if K.contains t then (σ.get t).only K else SV.dead := by
  unfold St.get St.pick
  rw [lookup_map_self (fun s => (St.get σ s).only K)]
  split
  · next v hv =>
    split at hv
    · next hk => rw [if_pos hk]; simp only [Option.some.injEq] at hv; exact hv.symm
    · cases hv
  · next hv =>
    split at hv
    · cases hv
    · next hk => rw [if_neg hk]
theorem onlySV_erase (K : List Nat) (v : SV α) : (v.only K).erase = v.erase.only K := by
  have hsc : ∀ x : SC α, (SC.only K x).erase = SC.only K x.erase := by
    intro x
    cases x with
    | view r p =>
      by_cases hr : K.contains r = true
      · simp only [SC.only, SC.erase, if_pos hr]
      · simp only [SC.only, SC.erase, if_neg hr]
    | win r p lo n f =>
      by_cases hr : K.contains r = true
      · simp only [SC.only, SC.erase, if_pos hr]
      · simp only [SC.only, SC.erase, if_neg hr]
    | ref r p off m =>
      by_cases hr : K.contains r = true
      · simp only [SC.only, SC.erase, if_pos hr]
      · simp only [SC.only, SC.erase, if_neg hr]
    | _ => rfl
  simp [SV.only, SV.erase, hsc]
theorem pick_erase (K : List Nat) (σ : St α) : (St.pick K σ).erase = St.pick K σ.erase := by
  unfold St.pick St.erase
  rw [List.map_map]
  refine List.map_congr_left fun s _ => ?_
  simp only [Function.comp, onlySV_erase]
  have := get_erase σ s
  unfold St.erase at this
  rw [this]
theorem pick_congr {K : List Nat} {σ σ' : St α} (h : ∀ s, σ'.get s = σ.get s) : St.pick K σ' = St.pick K σ := by
  unfold St.pick
  exact List.map_congr_left fun s _ => by rw [h s]
end
theorem Rel.pick {w0 : W0} {w : World} {N : Nat} {σ : St Unit} {tm : Array Value} (h : Rel w0 N σ tm w) (K : List Nat) : Rel w0 N (St.pick K σ) tm w := by
  obtain ⟨Γ, h1, h2, h3⟩ := h
  exact ⟨St.pick K Γ, by rw [pick_erase, h1], (h2.only K).congr (fun s => by rw [get_pick, get_only]), h3⟩

/-! ### the shape of a region -/
def maskOf (A : List Nat) (l : List Edge) : Nat → Nat := l.foldl fun s e => if Region.binds .any e = true then s ||| (2 ^ e.on ||| A.getD e.on 0) else s
theorem mask_bit (A : List Nat) (b : Nat) : ∀ (l : List Edge) (s : Nat), (maskOf A l s).testBit b = true → s.testBit b = true ∨ ∃ e ∈ l, Region.binds .any e = true ∧ (b = e.on ∨ (A.getD e.on 0).testBit b = true)
  | [], s, h => .inl h
  | e :: l, s, h => by
    have h' : (maskOf A l (if Region.binds .any e = true then s ||| (2 ^ e.on ||| A.getD e.on 0) else s)).testBit b = true := h
    rcases mask_bit A b l _ h' with h1 | ⟨e', h1, h2⟩
    · split at h1
      · next hb =>
        rw [Nat.testBit_or, Nat.testBit_or, Bool.or_eq_true, Bool.or_eq_true, Nat.testBit_two_pow] at h1
        rcases h1 with h1 | h1 | h1
        · exact .inl h1
        · exact .inr ⟨e, by simp, hb, .inl (by simpa [eq_comm] using h1)⟩
        · exact .inr ⟨e, by simp, hb, .inr h1⟩
      · exact .inl h1
    · exact .inr ⟨e', by simp [h1], h2⟩

def ancAt (C : Cert) (i : Nat) : Option Nat → Bool
  | some w => C.anc i w
  | none => false
def opOk (ops : Array Oper) (C : Cert) (m i : Nat) (o : Oper) (r : Role) : Bool :=
  o.after.toList.all (fun e => !Region.binds .any e || decide (e.on < i)) && decide (C.A.getD i 0 = maskOf C.A o.after.toList 0) &&
  match r with
  | .fn lo hi => decide (lo ≤ hi) && decide (hi ≤ m) && (match o.dst with
    | some d => decide (C.D.lookup d = some i)
    | none => false) && (List.range lo).all (fun k => ancAt C i C.ws[k]?) && (decide (m ≤ hi) || (match C.ws[hi]? with
      | some w => C.anc w i
      | none => false)) && (List.range C.roles.length).all (fun k => match C.roles[k]? with
        | some (.fn lo' _) => !C.anc i k || decide (lo' ≤ lo)
        | _ => true)
  | .wr k => decide (C.ws[k]? = some i) && decide (k < m)
def opsOk (ops : Array Oper) (C : Cert) (m : Nat) : Nat → List Oper → List Role → Bool
  | _, [], [] => true
  | i, o :: l, r :: rs => opOk ops C m i o r && opsOk ops C m (i + 1) l rs
  | _, _, _ => false
def wsOk (C : Cert) (m : Nat) : Bool := decide (C.ws.length = m) && (List.range m).all (fun k => (match C.ws[k]? with
    | some w => (match C.roles[w]? with
      | some (.wr k') => decide (k' = k)
      | _ => false)
    | none => false) && (match C.ws[k]?, C.ws[k + 1]? with
    | some w, some w' => C.anc w' w
    | _, _ => true))
def dOk (ops : Array Oper) (C : Cert) : Bool := C.D.all fun x => match ops[x.2]?, C.roles[x.2]? with
  | some o, some (.fn _ _) => decide (o.dst = some x.1)
  | _, _ => false
def freshL (C : Cert) (j : Nat) : List Nat := (List.range C.roles.length).filter fun i => match C.roles[i]? with
  | some (.fn lo _) => decide (lo = j)
  | _ => false
def againL (C : Cert) (j : Nat) : List Nat := (List.range C.roles.length).filter fun i => match C.roles[i]? with
  | some (.fn lo hi) => decide (lo < j) && decide (j ≤ hi)
  | _ => false
def planOk (C : Cert) (plan : List (List Nat × List Nat)) (m : Nat) : Bool := decide (plan = (List.range (m + 1)).map fun j => (freshL C j, againL C j))
def staticB (ops : Array Oper) (C : Cert) (plan : List (List Nat × List Nat)) : Bool :=
  opsOk ops C C.ws.length 0 ops.toList C.roles && wsOk C C.ws.length && dOk ops C && planOk C plan C.ws.length

theorem opsOk_len {ops : Array Oper} {C : Cert} {m : Nat} : ∀ (l : List Oper) (rs : List Role) (i : Nat), opsOk ops C m i l rs = true → l.length = rs.length
  | [], [], _, _ => rfl
  | o :: l, r :: rs, i, h => by simp only [opsOk, Bool.and_eq_true] at h; simp [opsOk_len l rs (i + 1) h.2]
  | [], r :: rs, _, h => by simp [opsOk] at h
  | o :: l, [], _, h => by simp [opsOk] at h
theorem opsOk_get {ops : Array Oper} {C : Cert} {m : Nat} : ∀ (l : List Oper) (rs : List Role) (i k : Nat) (o : Oper) (r : Role), opsOk ops C m i l rs = true → l[k]? = some o → rs[k]? = some r → opOk ops C m (i + k) o r = true
  | [], _, _, k, o, r, _, h, _ => by simp at h
  | o' :: l, [], _, _, _, _, h, _, _ => by simp [opsOk] at h
  | o' :: l, r' :: rs, i, 0, o, r, h, h1, h2 => by
    simp only [opsOk, Bool.and_eq_true] at h
    simp only [List.getElem?_cons_zero, Option.some.injEq] at h1 h2
    subst h1; subst h2
    exact h.1
  | o' :: l, r' :: rs, i, k + 1, o, r, h, h1, h2 => by
    simp only [opsOk, Bool.and_eq_true] at h
    have := opsOk_get l rs (i + 1) k o r h.2 (by simpa using h1) (by simpa using h2)
    rwa [show i + 1 + k = i + (k + 1) by omega] at this
theorem lookup_mem {β : Type} {s : Nat} {v : β} : ∀ {l : List (Nat × β)}, l.lookup s = some v → (s, v) ∈ l
  | [], h => by cases h
  | (t, u) :: l, h => by
    simp only [List.lookup] at h
    split at h
    · next he =>
      simp only [Option.some.injEq] at h
      have : s = t := by simpa using he
      subst this; subst h; simp
    · exact List.mem_cons_of_mem _ (lookup_mem h)

theorem static_ok {ops : Array Oper} {C : Cert} {plan : List (List Nat × List Nat)} (h : staticB ops C plan = true) : Static ops C C.ws.length ∧ plan.length = C.ws.length + 1 ∧ ∀ (q : Nat) pl, plan[q]? = some pl → PlanAt C q pl := by
  simp only [staticB, Bool.and_eq_true] at h
  obtain ⟨⟨⟨h1, h2⟩, h3⟩, h4⟩ := h
  have hlen : C.roles.length = ops.size := by have := opsOk_len _ _ _ h1; simpa using this.symm
  have hop : ∀ (i : Nat) (o : Oper) (r : Role), ops[i]? = some o → C.roles[i]? = some r → opOk ops C C.ws.length i o r = true := by
    intro i o r ho hr
    have := opsOk_get ops.toList C.roles 0 i o r h1 (by simpa using ho) hr
    rwa [Nat.zero_add] at this
  have hr : ∀ (i : Nat) (o : Oper), ops[i]? = some o → ∃ r, C.roles[i]? = some r := by
    intro i o ho
    exact ⟨_, List.getElem?_eq_getElem (by rw [hlen]; exact (Array.getElem?_eq_some_iff.1 ho).1)⟩
  simp only [wsOk, Bool.and_eq_true, decide_eq_true_eq, true_and] at h2
  rw [List.all_eq_true] at h2
  have hws : ∀ (k w : Nat), C.ws[k]? = some w → C.roles[w]? = some (.wr k) ∧ ∀ w', C.ws[k + 1]? = some w' → C.anc w' w = true := by
    intro k w hk
    have hlt := (List.getElem?_eq_some_iff.1 hk).1
    have := h2 k (List.mem_range.2 hlt)
    simp only [hk, Bool.and_eq_true] at this
    refine ⟨?_, ?_⟩
    · have q := this.1
      split at q
      · next k' hk' => rw [hk']; simp only [decide_eq_true_eq] at q; rw [q]
      · cases q
    · intro w' hw'
      have q := this.2
      rw [hw'] at q
      exact q
  refine ⟨⟨hlen, ?_, ?_, ?_, ?_, fun k w hk => (hws k w hk).1, fun k w w' hk hk' => (hws k w hk).2 w' hk', rfl, ?_, ?_⟩, ?_, ?_⟩
  · intro i o ho e he hb
    obtain ⟨r, hr⟩ := hr i o ho
    have := hop i o r ho hr
    simp only [opOk, Bool.and_eq_true] at this
    have := List.all_eq_true.1 this.1.1 e he
    simpa [hb] using this
  · intro i o b ho hb
    obtain ⟨r, hr⟩ := hr i o ho
    have := hop i o r ho hr
    simp only [opOk, Bool.and_eq_true, decide_eq_true_eq] at this
    have hm := this.1.2
    unfold Cert.anc at hb
    rw [hm] at hb
    rcases mask_bit C.A b _ _ hb with q | ⟨e, q1, q2, q3⟩
    · simp at q
    · exact ⟨e, q1, q2, q3⟩
  · intro i o lo hi ho hrole
    have := hop i o _ ho hrole
    simp only [opOk, Bool.and_eq_true, decide_eq_true_eq, Bool.or_eq_true] at this
    obtain ⟨_, ⟨⟨⟨⟨q1, q2⟩, q3⟩, q4⟩, q5⟩, _⟩ := this
    refine ⟨q1, q2, ?_, ?_, ?_⟩
    · split at q3
      · next d hd => exact ⟨d, hd, by simpa using q3⟩
      · cases q3
    · intro k hk
      have := List.all_eq_true.1 q4 k (List.mem_range.2 hk)
      unfold ancAt at this
      split at this
      · next w hw => exact ⟨w, hw, this⟩
      · cases this
    · intro hlt
      rcases q5 with q5 | q5
      · omega
      · split at q5
        · next w hw => exact ⟨w, hw, q5⟩
        · cases q5
  · intro i k hrole
    have hlt : i < ops.size := by rw [← hlen]; exact (List.getElem?_eq_some_iff.1 hrole).1
    have := hop i ops[i] _ (Array.getElem?_eq_getElem hlt) hrole
    simp only [opOk, Bool.and_eq_true, decide_eq_true_eq] at this
    exact this.2
  · intro i k lo hi lo' hi' hri hrk hanc
    have hlt : i < ops.size := by rw [← hlen]; exact (List.getElem?_eq_some_iff.1 hri).1
    have := hop i ops[i] _ (Array.getElem?_eq_getElem hlt) hri
    simp only [opOk, Bool.and_eq_true] at this
    obtain ⟨_, _, q6⟩ := this
    have := List.all_eq_true.1 q6 k (List.mem_range.2 (List.getElem?_eq_some_iff.1 hrk).1)
    simpa [hrk, hanc] using this
  · intro s g hg
    have := List.all_eq_true.1 h3 _ (lookup_mem hg)
    simp only at this
    split at this
    · next o lo hi ho hro => exact ⟨o, lo, hi, ho, hro, by simpa using this⟩
    · cases this
  · simp only [planOk, decide_eq_true_eq] at h4
    rw [h4]; simp
  · intro q pl hq
    simp only [planOk, decide_eq_true_eq] at h4
    rw [h4, List.getElem?_map] at hq
    cases hq' : (List.range (C.ws.length + 1))[q]? with
    | none => rw [hq'] at hq; cases hq
    | some q' =>
      have : q' = q := by
        have hlt := (List.getElem?_eq_some_iff.1 hq').1
        rw [List.getElem?_range (by simpa using hlt)] at hq'
        simpa using hq'.symm
      subst this
      rw [hq'] at hq
      simp only [Option.map_some, Option.some.injEq] at hq
      subst hq
      refine ⟨?_, ?_, ?_⟩
      · intro i
        simp only [freshL, List.mem_filter, List.mem_range]
        constructor
        · rintro ⟨_, h⟩
          split at h
          · next lo hi he => simp only [decide_eq_true_eq] at h; subst h; exact ⟨hi, he⟩
          · cases h
        · rintro ⟨hi, he⟩
          exact ⟨(List.getElem?_eq_some_iff.1 he).1, by rw [he]; simp⟩
      · exact List.Pairwise.filter _ List.pairwise_lt_range
      · intro i lo hi he h1 h2
        simp only [againL, List.mem_filter, List.mem_range]
        exact ⟨(List.getElem?_eq_some_iff.1 he).1, by rw [he]; simp [h1, h2]⟩

/-! ### tables -/
structure RC where
  keep : List Nat
  cert : Cert
  plan : List (List Nat × List Nat)
/-- In order; in any order with no writer. -/
abbrev RC.s (keep : List Nat) : RC := ⟨keep, ⟨[], [], [], []⟩, []⟩
def RC.d (keep A dsts : List Nat) : RC := ⟨keep, ⟨A, dsts.map fun _ => .fn 0 0, [], dsts.zipIdx⟩, [(List.range dsts.length, [])]⟩
def regOf (P : Program) (E : Env) (N : Nat) (tab : List (Nat × RC)) : Reg := fun id ops draw σ => match tab.lookup id with
  | some rc => if draw = true then match drawRun P E N ops rc.cert 0 rc.plan σ with
      | some σ' => some (St.pick rc.keep σ')
      | none => none
    else match seqL P E N ops ops.toList σ with
      | some σ' => some (St.pick rc.keep σ')
      | none => none
  | none => none
def tabT (tab : List (Nat × RC)) : Nat → Array Oper → Bool → Bool := fun id ops draw => !draw || match tab.lookup id with
  | some rc => staticB ops rc.cert rc.plan
  | none => true
theorem regOf_ok {P : Program} {E : Env} (hE : EnvOk P E) (hm : P.follows .mixedOrders = true) (N : Nat) (tab : List (Nat × RC)) : RegOk P N (regOf P E N tab) (tabT tab) := by
  intro w0 w id ops draw σ σ' tm ds Q hT hr hrel hq
  unfold regOf at hr
  unfold tabT at hT
  cases ht : tab.lookup id with
  | none => rw [ht] at hr; cases hr
  | some rc =>
    rw [ht] at hr hT
    simp only at hr hT
    cases draw with
    | true =>
      simp only [if_true, Bool.not_true, Bool.false_or] at hr hT
      split at hr
      · next σ1 h1 =>
        simp only [Option.some.injEq] at hr
        subst hr
        obtain ⟨a1, a2, a3⟩ := static_ok hT
        refine draw_region hE hm a1 a2 a3 hrel h1 ?_
        intro σF tm' w' hF hrel'
        have := hrel'.pick rc.keep
        rw [pick_congr hF] at this
        exact hq tm' w' this
      · cases hr
    | false =>
      simp only [Bool.false_eq_true, if_false] at hr
      split at hr
      · next σ1 h1 =>
        simp only [Option.some.injEq] at hr
        subst hr
        exact seq_region hE hrel h1 fun tm' w' h2 => hq tm' w' (h2.pick rc.keep)
      · cases hr

abbrev Tabs := List (Nat × List (Nat × RC))
def tabAt (tabs : Tabs) (f : Nat) : List (Nat × RC) := match tabs.lookup f with
  | some t => t
  | none => []
def bodyAll (P : Program) (T : Nat → Array Oper → Bool → Bool) (f : FuncId) : Bool := match P.funcs[f]? with
  | some fn => match fn.body with
    | some c => codeAll T c
    | none => true
  | none => true
/-- All the drawn regions' shapes. -/
def tabsOk (P : Program) (tabs : Tabs) : Bool := P.follows .mixedOrders && tabs.all fun x => bodyAll P (tabT x.2) (x.1 % zeroN)
def fnRun (P : Program) (E : Env) (tabs : Tabs) (n : Nat) (f : FuncId) (as : List (SV Unit)) : Option (SV Unit) := match tabs.lookup f with
  | some t => funRun P (fun _ N => regOf P E N t) n f as
  | none => none
theorem tab_ok {P : Program} {tabs : Tabs} (ht : tabsOk P tabs = true) {g f : Nat} (hg : g % zeroN = f) {t : List (Nat × RC)} (hl : tabs.lookup g = some t) {fn : Func} {c : Code} (hf : P.funcs[f]? = some fn) (hc : fn.body = some c) : codeAll (tabT t) c = true := by
  simp only [tabsOk, Bool.and_eq_true] at ht
  have := List.all_eq_true.1 ht.2 _ (lookup_mem hl)
  simp only [hg, bodyAll, hf, hc] at this
  exact this
theorem fnRun_ok {P : Program} {E : Env} (hE : EnvOk P E) {tabs : Tabs} (ht : tabsOk P tabs = true) {n : Nat} {f : FuncId} {as : List (SV Unit)} {r : SV Unit} (hf : f < zeroN) (h : fnRun P E tabs n f as = some r) : Good P f as r := by
  have ht' := ht
  simp only [tabsOk, Bool.and_eq_true] at ht'
  unfold fnRun at h
  split at h
  · next t hl =>
    exact good_of_run (reg := fun _ N => regOf P E N t) (T := tabT t) (fun N => regOf_ok hE ht'.1 N t) (fun fn c hfn hc => tab_ok ht (Nat.mod_eq_of_lt hf) hl hfn hc) h
  · cases h
/-- A function that is lent its first argument stands in the tables under its number and zeroN. -/
def fnRunL (P : Program) (E : Env) (tabs : Tabs) (n : Nat) (f : FuncId) (y : Cell Unit) (as : List (SV Unit)) : Option (SV Unit) := match tabs.lookup (f + zeroN) with
  | some t => funRunL P (fun _ N => regOf P E N t) n f y as
  | none => none
theorem fnRunL_ok {P : Program} {E : Env} (hE : EnvOk P E) {tabs : Tabs} (ht : tabsOk P tabs = true) {n : Nat} {f : FuncId} {y : Cell Unit} {as : List (SV Unit)} {r : SV Unit} (hf : f < zeroN) (h : fnRunL P E tabs n f y as = some r) : GoodL P f y as r := by
  have ht' := ht
  simp only [tabsOk, Bool.and_eq_true] at ht'
  unfold fnRunL at h
  split at h
  · next t hl =>
    exact goodL_of_run (reg := fun _ N => regOf P E N t) (T := tabT t) (fun N => regOf_ok hE ht'.1 N t) (fun fn c hfn hc => tab_ok ht (by rw [Nat.add_mod_right, Nat.mod_eq_of_lt hf]) hl hfn hc) h
  · cases h
def fnRunE (P : Program) (E : Env) (tabs : Tabs) (n : Nat) (f : FuncId) (as : List (SV Unit)) : Option (SV Unit) := if f < zeroN then match lentOf as with
  | some (y, l) => fnRunL P E tabs n f y l
  | none => fnRun P E tabs n f as else none
theorem fnRunE_ok {P : Program} {E : Env} (hE : EnvOk P E) {tabs : Tabs} (ht : tabsOk P tabs = true) {n : Nat} {f : FuncId} {as : List (SV Unit)} {r : SV Unit} (h : fnRunE P E tabs n f as = some r) : GoodE P f as r := by
  unfold fnRunE at h
  split at h
  · next hf =>
    unfold GoodE
    split at h
    · next y l hl => rw [hl]; exact fnRunL_ok hE ht hf h
    · next hl => rw [hl]; exact fnRun_ok hE ht hf h
  · cases h
/-- What is known, then what can be run, to a depth. -/
def envN (P : Program) (tabs : Tabs) (ext : Env) (n : Nat) : Nat → Env
  | 0 => ext
  | k + 1 => fun f as => match ext f as with
    | some r => some r
    | none => fnRunE P (envN P tabs ext n k) tabs n f as
theorem envN_ok {P : Program} {tabs : Tabs} (ht : tabsOk P tabs = true) {ext : Env} (hx : EnvOk P ext) {n : Nat} : ∀ k, EnvOk P (envN P tabs ext n k)
  | 0 => hx
  | k + 1 => by
    intro f as r h
    simp only [envN] at h
    split at h
    · next r' h' => simp only [Option.some.injEq] at h; subst h; exact hx f as r' h'
    · exact fnRunE_ok (envN_ok ht hx k) ht h
end Go.Proofs.Ytnmocjhpbobahaa.L
