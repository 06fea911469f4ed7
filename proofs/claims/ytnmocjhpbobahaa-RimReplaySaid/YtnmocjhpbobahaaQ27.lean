/- DK: great drawn regions without writers: slots that nobody reads any more are dropped on the way. -/
import Derived.Test.YtnmocjhpbobahaaQ8
set_option linter.unusedVariables false
set_option linter.unusedSimpArgs false
set_option linter.unnecessarySimpa false
namespace Go.Proofs.Ytnmocjhpbobahaa.L
open Go Go.RowKit
set_option maxRecDepth 100000
def rmS (s : Nat) : St Unit → St Unit
  | [] => []
  | x :: l => if x.1 = s then rmS s l else x :: rmS s l
@[simp] theorem rmS_nil (s : Nat) : rmS s [] = [] := rfl
@[simp] theorem rmS_cons (s t : Nat) (v : SV Unit) (l : St Unit) : rmS s ((t, v) :: l) = if t = s then rmS s l else (t, v) :: rmS s l := rfl
def dropS : List Nat → St Unit → St Unit
  | [], τ => τ
  | s :: D, τ => dropS D (rmS s τ)
@[simp] theorem dropS_nil (τ : St Unit) : dropS [] τ = τ := rfl
@[simp] theorem dropS_cons (s : Nat) (D : List Nat) (τ : St Unit) : dropS (s :: D) τ = dropS D (rmS s τ) := rfl
def keysS (τ : St Unit) : List Nat := τ.map (·.1)
/-- What τ' tells of its own slots, τ tells too. -/
def SubS (τ' τ : St Unit) : Prop := ∀ s ∈ keysS τ', τ.get s = τ'.get s
theorem rmS_keys {s : Nat} : ∀ {τ : St Unit} {r : Nat}, r ∈ keysS (rmS s τ) → r ∈ keysS τ ∧ r ≠ s
  | [], r, h => by cases h
  | x :: l, r, h => by
    unfold rmS at h
    split at h
    · next e =>
      obtain ⟨a, b⟩ := rmS_keys (τ := l) h
      exact ⟨List.mem_cons_of_mem _ a, b⟩
    · next e =>
      rcases List.mem_cons.1 h with h | h
      · subst h; exact ⟨List.mem_cons_self, e⟩
      · obtain ⟨a, b⟩ := rmS_keys (τ := l) h
        exact ⟨List.mem_cons_of_mem _ a, b⟩
theorem rmS_get {s : Nat} : ∀ {τ : St Unit} {r : Nat}, r ≠ s → (rmS s τ).get r = τ.get r
  | [], r, _ => rfl
  | x :: l, r, h => by
    obtain ⟨t, v⟩ := x
    have ih := rmS_get (τ := l) h
    rw [rmS_cons]
    split
    · next e => rw [ih, get_cons, if_neg (fun q => h (q.trans e))]
    · rw [get_cons, get_cons, ih]
theorem SubS.drop : ∀ {D : List Nat} {τ' τ : St Unit}, SubS τ' τ → SubS (dropS D τ') τ
  | [], _, _, h => h
  | s :: D, τ', τ, h => by
    refine SubS.drop (D := D) (τ' := rmS s τ') ?_
    intro r hr
    obtain ⟨a, b⟩ := rmS_keys hr
    rw [rmS_get b]
    exact h r a
theorem put_keys : ∀ {τ : St Unit} {d r : Nat} {v : SV Unit}, r ∈ keysS (τ.put d v) → r = d ∨ r ∈ keysS τ
  | [], d, r, v, h => by
    rcases List.mem_cons.1 h with h | h
    · exact .inl h
    · cases h
  | (t, u) :: l, d, r, v, h => by
    unfold St.put at h
    split at h
    · rcases List.mem_cons.1 h with h | h
      · exact .inl h
      · exact .inr (List.mem_cons_of_mem _ h)
    · split at h
      · rcases List.mem_cons.1 h with h | h
        · exact .inl h
        · exact .inr h
      · rcases List.mem_cons.1 h with h | h
        · right; subst h; exact List.mem_cons_self
        · rcases put_keys (τ := l) h with h | h
          · exact .inl h
          · exact .inr (List.mem_cons_of_mem _ h)
theorem SubS.put {τ' τ : St Unit} (h : SubS τ' τ) (d : Nat) (v : SV Unit) : SubS (τ'.put d v) (τ.put d v) := by
  intro r hr
  rw [get_put, get_put]
  split
  · rfl
  · next e => exact h r ((put_keys hr).resolve_left e)
def putQ (init : List Nat) (d : Nat) (τ : St Unit) (e : Eff Unit) : Option (St Unit) := match isPut e d with
  | some v => chkO ((rootsL v.cs).all init.contains) (some (τ.put d v))
  | none => none
@[simp] theorem putQ_P (init : List Nat) (d : Nat) (τ : St Unit) (v : SV Unit) : putQ init d τ (effP d v) = chkO ((rootsL v.cs).all init.contains) (some (τ.put d v)) := by
  simp only [putQ, isPut_P]
def wantG (τ : St Unit) (g : Nat) (w : Bool) : Option Bool := match (τ.get g).val with
  | some (.bool b) => some (b == w)
  | some _ => some false
  | none => none
def guardQ (b : Option Bool) (x y : Option (Eff Unit)) : Option (Eff Unit) := match b with
  | some true => x
  | some false => y
  | none => none
@[simp] theorem guardQ_true (x y : Option (Eff Unit)) : guardQ (some true) x y = x := rfl
@[simp] theorem guardQ_false (x y : Option (Eff Unit)) : guardQ (some false) x y = y := rfl
@[congr] theorem guardQ_congr {b b' : Option Bool} {x y : Option (Eff Unit)} (h : b = b') : guardQ b x y = guardQ b' x y := by rw [h]
def seqQ (P : Program) (E : Env) (init : List Nat) : List Oper → List (Nat × List Nat) → St Unit → Option (St Unit)
  | [], _, τ => some τ
  | _ :: _, [], _ => none
  | o :: l, I :: Is, τ => match o.dst with
    | some d => thenO (match o.guard with
        | none => ieff P E ΩU τ o
        | some (_, w) => guardQ (wantG τ I.1 w) (ieff P E ΩU τ o) (some (effP d undefSV))) fun e => thenO (putQ init d τ e) fun τ1 => seqQ P E init l Is (dropS I.2 τ1)
    | none => none
@[simp] theorem seqQ_nil (P : Program) (E : Env) (init : List Nat) (Is : List (Nat × List Nat)) (τ : St Unit) : seqQ P E init [] Is τ = some τ := by cases Is <;> rfl
@[simp] theorem seqQ_none (P : Program) (E : Env) (init : List Nat) (d : Nat) (op : Op) (ty : TypeId) (pos : String) (af : Array Edge) (l : List Oper) (g : Nat) (D : List Nat) (Is : List (Nat × List Nat)) (x : Nat × SV Unit) (τ : St Unit) :
    seqQ P E init (⟨some d, op, ty, pos, af, none⟩ :: l) ((g, D) :: Is) (x :: τ) = thenO (ieff P E ΩU (x :: τ) ⟨some d, op, ty, pos, af, none⟩) fun e => thenO (putQ init d (x :: τ) e) fun τ1 => seqQ P E init l Is (dropS D τ1) := by rw [seqQ]
@[simp] theorem seqQ_some (P : Program) (E : Env) (init : List Nat) (d : Nat) (op : Op) (ty : TypeId) (pos : String) (af : Array Edge) (j : Nat) (w : Bool) (l : List Oper) (g : Nat) (D : List Nat) (Is : List (Nat × List Nat)) (x : Nat × SV Unit) (τ : St Unit) :
    seqQ P E init (⟨some d, op, ty, pos, af, some (j, w)⟩ :: l) ((g, D) :: Is) (x :: τ) = thenO (guardQ (wantG (x :: τ) g w) (ieff P E ΩU (x :: τ) ⟨some d, op, ty, pos, af, some (j, w)⟩) (some (effP d undefSV))) fun e => thenO (putQ init d (x :: τ) e) fun τ1 => seqQ P E init l Is (dropS D τ1) := by rw [seqQ]
/-! ### what the region's text alone shows -/
def rdT : Operand → List Nat
  | .tmp s => [s]
  | _ => []
def rdsQ (g : Nat) (o : Oper) : List Nat := (match o.guard with
  | some _ => [g]
  | none => []) ++ o.op.operands.toList.flatMap rdT
def gOkQ (ops : Array Oper) (g : Nat) (o : Oper) : Bool := match o.guard with
  | none => true
  | some (j, _) => match (ops[j]?).bind (·.dst) with
    | some t => t == g
    | none => false
def statQ (N : Nat) (ops : Array Oper) (C : Cert) (init : List Nat) : Nat → List Oper → List (Nat × List Nat) → List Nat → Bool
  | _, [], _, _ => true
  | _, _ :: _, [], _ => false
  | i, o :: l, I :: Is, keys => match o.dst with
    | some d => gOkQ ops I.1 o && (dstOk N o && ((rdsQ I.1 o).all (fun s => okRead C i s && keys.contains s) && (I.2.all (fun s => !init.contains s) && statQ N ops C init (i + 1) l Is ((d :: keys).filter fun s => !I.2.contains s))))
    | none => false
theorem dropS_keys : ∀ {D : List Nat} {τ : St Unit} {s : Nat}, s ∈ keysS τ → D.contains s = false → s ∈ keysS (dropS D τ)
  | [], _, _, h, _ => h
  | a :: D, τ, s, h, hn => by
    rw [List.contains_cons, Bool.or_eq_false_iff] at hn
    refine dropS_keys (D := D) (τ := rmS a τ) ?_ hn.2
    have hne : s ≠ a := by simpa using hn.1
    clear hn
    induction τ with
    | nil => cases h
    | cons x l ih =>
      unfold rmS
      rcases List.mem_cons.1 h with h | h
      · rw [if_neg (fun e => hne (h.trans e))]
        exact List.mem_cons.2 (.inl h)
      · split
        · exact ih h
        · exact List.mem_cons_of_mem _ (ih h)
theorem keys_put : ∀ {τ : St Unit} {d r : Nat} {v : SV Unit}, r = d ∨ r ∈ keysS τ → r ∈ keysS (τ.put d v)
  | [], d, r, v, h => by
    rcases h with h | h
    · subst h; exact List.mem_cons_self
    · cases h
  | (t, u) :: l, d, r, v, h => by
    unfold St.put
    split
    · next e =>
      rcases h with h | h
      · subst h; exact List.mem_cons_self
      · rcases List.mem_cons.1 h with h | h
        · subst h; subst e; exact List.mem_cons_self
        · exact List.mem_cons_of_mem _ h
    · split
      · rcases h with h | h
        · subst h; exact List.mem_cons_self
        · exact List.mem_cons_of_mem _ h
      · rcases h with h | h
        · exact List.mem_cons_of_mem _ (keys_put (.inl h))
        · rcases List.mem_cons.1 h with h | h
          · subst h; exact List.mem_cons_self
          · exact List.mem_cons_of_mem _ (keys_put (.inr h))
def RootsIn (init : List Nat) (τ : St Unit) : Prop := ∀ s, ∀ r ∈ rootsL (τ.get s).cs, r ∈ init
theorem dropS_get : ∀ {D : List Nat} {τ : St Unit} (s : Nat), (dropS D τ).get s = τ.get s ∨ (dropS D τ).get s = SV.dead
  | [], _, _ => .inl rfl
  | a :: D, τ, s => by
    have h := dropS_get (D := D) (τ := rmS a τ) s
    rw [dropS_cons]
    rcases h with h | h
    · rw [h]
      by_cases e : s = a
      · right
        subst e
        clear h
        induction τ with
        | nil => rfl
        | cons x l ih =>
          obtain ⟨t, v⟩ := x
          rw [rmS_cons]
          split
          · exact ih
          · next e => rw [get_cons, if_neg (fun q => e q.symm), ih]
      · left; rw [rmS_get e]
    · exact .inr h
theorem RootsIn.drop {init : List Nat} {τ : St Unit} (h : RootsIn init τ) (D : List Nat) : RootsIn init (dropS D τ) := by
  intro s r hr
  rcases dropS_get (D := D) (τ := τ) s with e | e
  · rw [e] at hr; exact h s r hr
  · rw [e] at hr; cases hr
theorem RootsIn.put {init : List Nat} {τ : St Unit} (h : RootsIn init τ) {d : Nat} {v : SV Unit} (hv : ∀ r ∈ rootsL v.cs, r ∈ init) : RootsIn init (τ.put d v) := by
  intro s r hr
  rw [get_put] at hr
  split at hr
  · exact hv r hr
  · exact h s r hr
theorem seqQ_ok {P : Program} {E : Env} {N : Nat} {ops : Array Oper} {C : Cert} {init : List Nat} (hin : ∀ r ∈ init, C.D.lookup r = none) : ∀ (l : List Oper) (Is : List (Nat × List Nat)) (i : Nat) (keys : List Nat) (τ' τ σ' : St Unit), SubS τ' τ → (∀ s ∈ keys, s ∈ keysS τ') → (∀ s ∈ init, s ∈ keys) → RootsIn init τ' → statQ N ops C init i l Is keys = true → seqQ P E init l Is τ' = some σ' → ∃ σ, seqD P E N ops C i l τ = some σ ∧ SubS σ' σ
  | [], Is, i, keys, τ', τ, σ', hs, _, _, _, _, h => by
    rw [seqQ_nil] at h
    obtain rfl := Option.some.inj h
    exact ⟨τ, rfl, hs⟩
  | o :: l, [], i, keys, τ', τ, σ', _, _, _, _, h, _ => by cases h
  | o :: l, I :: Is, i, keys, τ', τ, σ', hs, hk, hi, hr, hst, h => by
    unfold statQ at hst
    unfold seqQ at h
    unfold seqD
    cases hd : o.dst with
    | none => rw [hd] at h; cases h
    | some d =>
      rw [hd] at h hst
      simp only at h hst ⊢
      simp only [Bool.and_eq_true] at hst
      obtain ⟨t1, t2, t3, t4, t5⟩ := hst
      rw [List.all_eq_true] at t3 t4
      have hrd : ∀ s ∈ rdO τ' ops o, s ∈ keys ∧ okRead C i s = true := by
        intro s hsr
        have base : ∀ s, s ∈ rdsQ I.1 o → s ∈ keys ∧ okRead C i s = true := fun s h' => by
          have := t3 s h'
          rw [Bool.and_eq_true] at this
          exact ⟨by simpa using this.2, this.1⟩
        unfold rdO at hsr
        rcases List.mem_append.1 hsr with hsr | hsr
        · refine base s ?_
          unfold rdGuard at hsr
          unfold gOkQ at t1
          unfold rdsQ
          cases hg : o.guard with
          | none => rw [hg] at hsr; cases hsr
          | some jw =>
            obtain ⟨j, w⟩ := jw
            rw [hg] at hsr t1
            simp only at hsr t1
            cases hj : (ops[j]?).bind (·.dst) with
            | none => rw [hj] at t1; cases t1
            | some t =>
              rw [hj] at hsr t1
              simp only [Option.toList_some, List.mem_singleton, beq_iff_eq] at hsr t1
              subst hsr; subst t1
              simp
        · unfold rdOps at hsr
          obtain ⟨x, hx, hsx⟩ := List.mem_flatMap.1 hsr
          cases x with
          | tmp t =>
            have ht : t ∈ rdsQ I.1 o := by
              unfold rdsQ
              exact List.mem_append.2 (.inr (List.mem_flatMap.2 ⟨.tmp t, hx, by simp [rdT]⟩))
            simp only [rdOp, rdSlot] at hsx
            rcases List.mem_cons.1 hsx with e | e
            · subst e; exact base _ ht
            · have hri := hr t s e
              refine ⟨hi s hri, ?_⟩
              unfold okRead
              rw [hin s hri]
          | _ => cases hsx
      have hag : Agree (rdO τ' ops o) τ' τ := fun s hsr => hs s (hk s (hrd s hsr).1)
      have e2 : rdO τ ops o = rdO τ' ops o := rdO_fr hag
      have e1 : stepEff P E N ops τ o = (match o.guard with
          | none => ieff P E ΩU τ' o
          | some (_, w) => guardQ (wantG τ' I.1 w) (ieff P E ΩU τ' o) (some (effP d undefSV))) := by
        rw [stepEff_fr hag]
        unfold stepEff wantedS
        unfold gOkQ at t1
        cases hg : o.guard with
        | none => simp only [t2, if_true]
        | some jw =>
          obtain ⟨j, w⟩ := jw
          rw [hg] at t1
          simp only at t1 ⊢
          cases hj : (ops[j]?).bind (·.dst) with
          | none => rw [hj] at t1; cases t1
          | some t =>
            rw [hj] at t1
            simp only [beq_iff_eq] at t1
            subst t1
            simp only [wantG]
            cases hv : (τ'.get I.1).val with
            | none => rfl
            | some v =>
              cases v with
              | bool b =>
                simp only
                cases hbw : (b == w) with
                | true => simp only [guardQ, t2, if_true]
                | false => simp only [guardQ, t2, if_true, hd]; rfl
              | _ => simp only [guardQ, t2, if_true, hd]; rfl
      rw [e1]
      revert h
      generalize (match o.guard with
          | none => ieff P E ΩU τ' o
          | some (_, w) => guardQ (wantG τ' I.1 w) (ieff P E ΩU τ' o) (some (effP d undefSV))) = X
      intro h
      cases X with
      | none => cases h
      | some e =>
        simp only [thenO_some, putQ] at h
        simp only [thenO_some, putD]
        cases hp : isPut e d with
        | none => rw [hp] at h; cases h
        | some v =>
          rw [hp] at h
          simp only [chkO] at h
          split at h
          · next hc =>
            rw [List.all_eq_true] at hc
            have hvr : ∀ r ∈ rootsL v.cs, r ∈ init := fun r h' => by simpa using hc r h'
            have c1 : (rdO τ ops o).all (okRead C i) = true := by
              rw [e2, List.all_eq_true]
              exact fun s hsr => (hrd s hsr).2
            have c2 : (rootsL v.cs).all (okRead C i) = true := by
              rw [List.all_eq_true]
              intro r h'
              unfold okRead
              rw [hin r (hvr r h')]
            simp only [chkO, c1, c2, Bool.and_self, if_true, thenO_some]
            refine seqQ_ok hin l Is (i + 1) _ _ _ σ' ((hs.put d v).drop) ?_ ?_ ((hr.put hvr).drop _) t5 h
            · intro s h'
              rw [List.mem_filter] at h'
              refine dropS_keys (keys_put ?_) (by simpa using h'.2)
              rcases List.mem_cons.1 h'.1 with e | e
              · exact .inl e
              · exact .inr (hk s e)
            · intro s h'
              rw [List.mem_filter]
              refine ⟨List.mem_cons_of_mem _ (hi s h'), ?_⟩
              cases hcs : I.2.contains s with
              | false => rfl
              | true =>
                have := t4 s (by simpa using hcs)
                rw [Bool.not_eq_true'] at this
                have h'' : init.contains s = true := by simpa using h'
                rw [this] at h''
                cases h''
          · cases h
/-- What is checked once of a region: its text, where it begins. -/
def begQ (N : Nat) (ops : Array Oper) (C : Cert) (Is : List (Nat × List Nat)) (σ : St Unit) : Bool :=
  (keysS σ).all (fun r => (C.D.lookup r).isNone) && ((σ.all fun x => (rootsL x.2.cs).all (keysS σ).contains) && statQ N ops C (keysS σ) 0 ops.toList Is (keysS σ))
theorem mem_look : ∀ {σ : St Unit} (s : Nat), (∃ x ∈ σ, σ.get s = x.2) ∨ σ.get s = SV.dead
  | [], _ => .inr rfl
  | (t, v) :: l, s => by
    rw [get_cons]
    split
    · exact .inl ⟨(t, v), List.mem_cons_self, rfl⟩
    · rcases mem_look (σ := l) s with ⟨x, hx, e⟩ | e
      · exact .inl ⟨x, List.mem_cons_of_mem _ hx, e⟩
      · exact .inr e
section
variable {P : Program} {E : Env} {N id : Nat} {t : List (Nat × RC)} {ops : Array Oper} {b : Code} {σ σ1 σ2 : St Unit} {Q : Ex → St Unit → Prop}
theorem gH {keep A dsts : List Nat} (Is : List (Nat × List Nat)) (h : RP (regOf P E N t) b σ2 Q) (hl : t.lookup id = some (RC.d keep A dsts) := by rfl) (hn : dsts.length = ops.size := by kernel_rfl) (h0 : rootsOk (RC.d keep A dsts).cert 0 σ = true := by kernel_rfl) (hb : begQ N ops (RC.d keep A dsts).cert Is σ = true := by kernel_rfl) (hs : seqQ P E (keysS σ) ops.toList Is σ = some σ1 := by simp (maxSteps := 4000000) (disch := first | (apply chkI; kernel_rfl) | omega | simp) [-RC.d]; rfl) (hk : keep.all (keysS σ1).contains = true := by kernel_rfl) (hp : St.pick keep σ1 = σ2 := by simp; rfl) :
    RP (regOf P E N t) (.seq (.region id ops true) b) σ Q := by
  unfold begQ at hb
  rw [Bool.and_eq_true, Bool.and_eq_true] at hb
  obtain ⟨b1, b2, b3⟩ := hb
  rw [List.all_eq_true] at b1 b2
  obtain ⟨τ, hτ, hag⟩ := seqQ_ok (init := keysS σ) (fun r hr => by simpa using b1 r hr) _ _ 0 (keysS σ) σ σ σ1 (fun _ _ => rfl) (fun _ h => h) (fun _ h => h) (by
    intro s r hr
    rcases mem_look (σ := σ) s with ⟨x, hx, e⟩ | e
    · rw [e] at hr
      have := b2 x hx
      rw [List.all_eq_true] at this
      simpa using this r hr
    · rw [e] at hr; cases hr) b3 hs
  have e : St.pick keep τ = St.pick keep σ1 := by
    rw [pick_get, pick_get]
    apply List.map_congr_left
    intro s hsk
    rw [List.all_eq_true] at hk
    rw [hag s (by simpa using hk s hsk)]
  subst hp
  rw [← e] at h
  exact sd hl (drawD hn h0 hτ) h
end
attribute [simp] wantG
end Go.Proofs.Ytnmocjhpbobahaa.L
