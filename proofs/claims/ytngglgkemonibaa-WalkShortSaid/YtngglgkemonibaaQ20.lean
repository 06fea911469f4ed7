/- T38: carcanetref03.Near. T27: carcanetref03.Has. Pl: plain facts of graphs: who stands beside whom, what can be reached. -/
import Derived.Test.YtngglgkemonibaaQ13
import Derived.Test.YtngglgkemonibaaQ10
import Derived.Test.YtngglgkemonibaaQ19
set_option linter.unusedVariables false
set_option linter.unusedSimpArgs false
set_option linter.unnecessarySimpa false
namespace Go.Proofs.Ytngglgkemonibaa.L
open Go Go.RowKit
set_option maxRecDepth 100000
set_option maxHeartbeats 4000000
def nb1 (v : Int) (e : Int × Int) : List Int := (if e.1 = v then [e.2] else []) ++ (if e.2 = v then [e.1] else [])
def nbL (es : List (Int × Int)) (v : Int) : List Int := es.flatMap (nb1 v)
def nearR (n : Int) (es : List (Int × Int)) (v : Int) : List Int := if RightG n es then sortR (nbL es v) else []
theorem nb1_len (v : Int) (e : Int × Int) : (nb1 v e).length ≤ 2 := by unfold nb1; split <;> split <;> simp
theorem nbL_len (es : List (Int × Int)) (v : Int) : (nbL es v).length ≤ 2 * es.length := by
  induction es with
  | nil => simp [nbL]
  | cons e l ih => have := nb1_len v e; simp only [nbL, List.flatMap_cons, List.length_append, List.length_cons] at ih ⊢; omega
theorem nbL_take (es : List (Int × Int)) (v : Int) (i : Nat) (h : i < es.length) : nbL (es.take (i + 1)) v = nbL (es.take i) v ++ nb1 v (ent es i) := by
  rw [ent_take h]; simp [nbL]
abbrev E38 : Env := ext (ext env0 34 spec34) 55 spec55
theorem E38_ok : EnvOk Try.prog E38 := ext_ok (ext_ok env0_ok ok34) ok55
theorem w38 (n : Int) (es : List (Int × Int)) (v : Int) : ∃ c, Try.f38.body = some c ∧ RP (regOf Try.prog E38 55 t38) c (argsSt 0 [gr n es, iv v]) (endsAs Try.prog Try.f38 (ow (nearR n es v))) := by
  refine ⟨_, rfl, ?_⟩
  generalize hQ : endsAs Try.prog Try.f38 (ow (nearR n es v)) = Q
  simp only [argsSt]
  by_cases hR : RightG n es
  case neg =>
    have hans : nearR n es v = [] := if_neg hR
    rw [hans] at hQ
    refine go ?_
    show Q .ret _; refine fin_ret hQ rfl ?_
    rfl
  have hlen : es.length ≤ 4000 := hR.1.2.2
  have hans : nearR n es v = sortR (nbL es v) := if_pos hR
  rw [hans] at hQ
  refine go ?_
  apply rp_loop (fun k σ => ∃ i : Nat, i ≤ es.length ∧ k = es.length - i ∧ σ = [(1, iv v), (2, gbx n es), (4, SV.dead), (5, ow (nbL (es.take i) v)), (6, iv i)]) es.length
  · exact ⟨0, by omega, by omega, rfl⟩
  rintro k σ ⟨i, hi, rfl, rfl⟩
  have hl2 := nbL_len (es.take i) v
  have hl3 : (es.take i).length ≤ i := by simp; omega
  by_cases hil : i < es.length
  case neg =>
    have hti : es.take i = es := List.take_of_length_le (by omega)
    rw [hti] at hl2 hl3 ⊢
    refine go ?_
    show Q .ret _; refine fin_ret hQ rfl ?_
    rfl
  have e := nbL_take es v i hil
  unfold nb1 at e
  generalize nbL (es.take i) v = A at *
  by_cases h1 : (ent es i).1 = v <;> by_cases h2 : (ent es i).2 = v
  all_goals
    first | rw [if_pos h1] at e | rw [if_neg h1] at e
    first | rw [if_pos h2] at e | rw [if_neg h2] at e
    refine go ?_
    refine nxt (es.length - (i + 1)) (by omega) ⟨i + 1, by omega, by omega, ?_⟩
    rw [e]
    simp
def spec38 : Spec := spec2 asGr asInt fun g v => some (ow (nearR g.1 g.2 v))
theorem ok38 : SpecOk 38 spec38 := by
  intro us r h
  obtain ⟨x, y, g, v, rfl, hg, hv, h⟩ := spec2_eq h
  obtain rfl := Option.some.inj h
  rw [asGr_eq hg, asInt_eq hv]
  exact goodBy E38_ok Try.func38 rfl (Nat.le_of_ble_eq_true rfl) (by decide) (w38 g.1 g.2 v)
@[simp] theorem s38 (n : Int) (es : List (Int × Int)) (v : Int) : spec38 [gr n es, iv v] = some (ow (nearR n es v)) := by
  unfold spec38; rw [spec2_v (asGr_gr n es) (asInt_iv v)]
@[simp] theorem call38 {E : Env} {σ : St Unit} {t : Nat} {l : List Operand} : effCall Try.prog E ΩU σ t 38 l = callO E 38 t (argsOf Try.prog ΩU σ [24, 3] l) := eff_call Try.func38 Try.params38
end Go.Proofs.Ytngglgkemonibaa.L
namespace Go.Proofs.Ytngglgkemonibaa.L
open Go Go.RowKit
set_option maxRecDepth 100000
set_option maxHeartbeats 4000000
def HasG (n : Int) (es : List (Int × Int)) (a b : Int) : Prop := RightG n es ∧ ((a, b) ∈ es ∨ (b, a) ∈ es)
instance (n : Int) (es : List (Int × Int)) (a b : Int) : Decidable (HasG n es a b) := by unfold HasG; infer_instance
abbrev E27 : Env := ext env0 34 spec34
theorem E27_ok : EnvOk Try.prog E27 := ext_ok env0_ok ok34
theorem w27 (n : Int) (es : List (Int × Int)) (a b : Int) : ∃ c, Try.f27.body = some c ∧ RP (regOf Try.prog E27 56 t27) c (argsSt 0 [gr n es, iv a, iv b]) (endsAs Try.prog Try.f27 (bv (decide (HasG n es a b)))) := by
  refine ⟨_, rfl, ?_⟩
  generalize hQ : endsAs Try.prog Try.f27 (bv (decide (HasG n es a b))) = Q
  simp only [argsSt]
  by_cases hR : RightG n es
  case neg =>
    have hans : decide (HasG n es a b) = false := decide_eq_false fun h => hR h.1
    rw [hans] at hQ
    refine go ?_
    show Q .ret _; refine fin_ret hQ rfl ?_
    rfl
  have hlen : es.length ≤ 4000 := hR.1.2.2
  refine go ?_
  apply rp_loop (fun k σ => ∃ i : Nat, i ≤ es.length ∧ k = es.length - i ∧ σ = [(1, iv a), (2, iv b), (3, gbx n es), (7, iv i)] ∧
    ∀ j, j < i → ¬ (((ent es j).1 = a ∧ (ent es j).2 = b) ∨ ((ent es j).1 = b ∧ (ent es j).2 = a))) es.length
  · exact ⟨0, by omega, by omega, rfl, by omega⟩
  rintro k σ ⟨i, hi, rfl, rfl, hno⟩
  by_cases hil : i < es.length
  case neg =>
    have hans : decide (HasG n es a b) = false := decide_eq_false fun h => by
      rcases h.2 with h | h
      · obtain ⟨j, hj, h1, h2⟩ := mem_ent.1 h; exact hno j (by omega) (.inl ⟨h1, h2⟩)
      · obtain ⟨j, hj, h1, h2⟩ := mem_ent.1 h; exact hno j (by omega) (.inr ⟨h1, h2⟩)
    rw [hans] at hQ
    refine go ?_
    show Q .ret _; refine fin_ret hQ rfl ?_
    rfl
  refine go ?_
  by_cases hit : ((ent es i).1 = a ∧ (ent es i).2 = b) ∨ ((ent es i).1 = b ∧ (ent es i).2 = a)
  · have hans : decide (HasG n es a b) = true := decide_eq_true ⟨hR, hit.imp (fun h => mem_ent.2 ⟨i, hil, h.1, h.2⟩) (fun h => mem_ent.2 ⟨i, hil, h.1, h.2⟩)⟩
    rw [hans] at hQ
    rcases (by omega : ((ent es i).1 = a ∧ (ent es i).2 = b) ∨ ((ent es i).1 = a ∧ ¬ (ent es i).2 = b ∧ (ent es i).1 = b ∧ (ent es i).2 = a) ∨ (¬ (ent es i).1 = a ∧ (ent es i).1 = b ∧ (ent es i).2 = a)) with ⟨h1, h2⟩ | ⟨h1, h2, h3, h4⟩ | ⟨h1, h2, h3⟩
    all_goals
      refine go ?_
      show Q .ret _; refine fin_ret hQ rfl ?_
      rfl
  · have hno' : ∀ j, j < i + 1 → ¬ (((ent es j).1 = a ∧ (ent es j).2 = b) ∨ ((ent es j).1 = b ∧ (ent es j).2 = a)) := by
      intro j hj
      rcases Nat.lt_succ_iff_lt_or_eq.1 hj with h | rfl
      · exact hno j h
      · exact hit
    rcases (by omega : ((ent es i).1 = a ∧ ¬ (ent es i).2 = b ∧ ¬ (ent es i).1 = b) ∨ ((ent es i).1 = a ∧ ¬ (ent es i).2 = b ∧ (ent es i).1 = b ∧ ¬ (ent es i).2 = a) ∨ (¬ (ent es i).1 = a ∧ ¬ (ent es i).1 = b) ∨ (¬ (ent es i).1 = a ∧ (ent es i).1 = b ∧ ¬ (ent es i).2 = a)) with ⟨h1, h2, h3⟩ | ⟨h1, h2, h3, h4⟩ | ⟨h1, h2⟩ | ⟨h1, h2, h3⟩
    all_goals
      refine go ?_
      exact nxt (es.length - (i + 1)) (by omega) ⟨i + 1, by omega, by omega, rfl, hno'⟩
def spec27 : Spec := spec3 asGr asInt asInt fun g a b => some (bv (decide (HasG g.1 g.2 a b)))
theorem ok27 : SpecOk 27 spec27 := by
  intro us r h
  obtain ⟨x, y, z, g, a, b, rfl, hg, ha, hb, h⟩ := spec3_eq h
  obtain rfl := Option.some.inj h
  rw [asGr_eq hg, asInt_eq ha, asInt_eq hb]
  exact goodBy E27_ok Try.func27 rfl (Nat.le_of_ble_eq_true rfl) (by decide) (w27 g.1 g.2 a b)
@[simp] theorem s27 (n : Int) (es : List (Int × Int)) (a b : Int) : spec27 [gr n es, iv a, iv b] = some (bv (decide (HasG n es a b))) := by
  unfold spec27; rw [spec3_v (asGr_gr n es) (asInt_iv a) (asInt_iv b)]
@[simp] theorem call27 {E : Env} {σ : St Unit} {t : Nat} {l : List Operand} : effCall Try.prog E ΩU σ t 27 l = callO E 27 t (argsOf Try.prog ΩU σ [24, 3, 3] l) := eff_call Try.func27 Try.params27
end Go.Proofs.Ytngglgkemonibaa.L
namespace Go.Proofs.Ytngglgkemonibaa.L
open Go Go.RowKit
def Adj (es : List (Int × Int)) (a b : Int) : Prop := (a, b) ∈ es ∨ (b, a) ∈ es
instance (es : List (Int × Int)) (a b : Int) : Decidable (Adj es a b) := by unfold Adj; infer_instance
theorem Adj.symm {es : List (Int × Int)} {a b : Int} (h : Adj es a b) : Adj es b a := h.elim .inr .inl
theorem mem_insR {x y : Int} {a : List Int} : x ∈ insR y a ↔ x = y ∨ x ∈ a := by
  unfold insR
  constructor
  · intro h
    rcases List.mem_append.1 h with h | h
    · exact .inr (List.mem_of_mem_take h)
    · rcases List.mem_cons.1 h with h | h
      · exact .inl h
      · exact .inr (List.mem_of_mem_drop h)
  · intro h
    rcases h with rfl | h
    · simp
    · rw [← List.take_append_drop (posR y a a.length) a] at h
      rcases List.mem_append.1 h with h | h
      · exact List.mem_append.2 (.inl h)
      · exact List.mem_append.2 (.inr (List.mem_cons.2 (.inr h)))
theorem len_insR (y : Int) (a : List Int) : (insR y a).length = a.length + 1 := by
  unfold insR
  have : (a.take (posR y a a.length) ++ a.drop (posR y a a.length)).length = a.length := by rw [List.take_append_drop]
  simp only [List.length_append, List.length_cons] at this ⊢
  omega
theorem mem_fold (l : List Int) : ∀ (a : List Int) (x : Int), x ∈ l.foldl (fun a x => insR x a) a ↔ x ∈ l ∨ x ∈ a := by
  induction l with
  | nil => simp
  | cons y l ih => 
    intro a x; rw [List.foldl_cons, ih, mem_insR, List.mem_cons]
    constructor
    · rintro (h | h | h)
      · exact .inl (.inr h)
      · exact .inl (.inl h)
      · exact .inr h
    · rintro ((h | h) | h)
      · exact .inr (.inl h)
      · exact .inl h
      · exact .inr (.inr h)
theorem mem_sortR {l : List Int} {x : Int} : x ∈ sortR l ↔ x ∈ l := by unfold sortR; rw [mem_fold]; simp
theorem len_fold (l : List Int) : ∀ a : List Int, (l.foldl (fun a x => insR x a) a).length = l.length + a.length := by
  induction l with
  | nil => simp
  | cons y l ih => intro a; rw [List.foldl_cons, ih, len_insR, List.length_cons]; omega
theorem len_sortR (l : List Int) : (sortR l).length = l.length := by unfold sortR; rw [len_fold]; simp
theorem mem_nbL {es : List (Int × Int)} {v x : Int} : x ∈ nbL es v ↔ Adj es v x := by
  unfold nbL nb1 Adj
  rw [List.mem_flatMap]
  constructor
  · rintro ⟨e, he, h⟩
    rcases List.mem_append.1 h with h | h
    · split at h
      · next h1 => simp only [List.mem_singleton] at h; subst h h1; exact .inl he
      · cases h
    · split at h
      · next h1 => simp only [List.mem_singleton] at h; subst h h1; exact .inr he
      · cases h
  · rintro (h | h)
    · exact ⟨_, h, by simp⟩
    · exact ⟨_, h, by simp⟩
theorem mem_nearR {n : Int} {es : List (Int × Int)} {v x : Int} (hR : RightG n es) : x ∈ nearR n es v ↔ Adj es v x := by
  unfold nearR; rw [if_pos hR, mem_sortR, mem_nbL]
theorem len_nearR (n : Int) (es : List (Int × Int)) (v : Int) : (nearR n es v).length ≤ 2 * es.length := by
  unfold nearR; split
  · rw [len_sortR]; exact nbL_len es v
  · simp
/-- What is reached from a within l. -/
inductive Reach (es : List (Int × Int)) (l : List Int) (a : Int) : Int → Prop where
  | base : Reach es l a a
  | step {b c : Int} : Reach es l a b → Adj es b c → c ∈ l → Reach es l a c
def WholeG (n : Int) (es : List (Int × Int)) (l : List Int) : Prop := RightG n es ∧ 0 < l.length ∧ l.Nodup ∧ (∀ i, i < l.length → 0 ≤ nth l i ∧ nth l i < n) ∧ ∀ v ∈ l, Reach es l (nth l 0) v
/-- What is closed holds all that is reached. -/
theorem Reach.closed {es : List (Int × Int)} {l got : List Int} {a : Int} (h0 : a ∈ got) (hc : ∀ b ∈ got, ∀ c, Adj es b c → c ∈ l → c ∈ got) {v : Int} (h : Reach es l a v) : v ∈ got := by
  induction h with
  | base => exact h0
  | step _ h1 h2 ih => exact hc _ ih _ h1 h2
theorem nodup_len : ∀ {l m : List Int}, l.Nodup → l ⊆ m → l.length ≤ m.length
  | [], _, _, _ => by simp
  | x :: l, m, hl, h => by
    rw [List.nodup_cons] at hl
    have hx : x ∈ m := h (by simp)
    have := nodup_len (l := l) (m := m.erase x) hl.2 fun y hy => (List.mem_erase_of_ne (fun e : y = x => hl.1 (by rw [← e]; exact hy))).2 (h (by simp [hy]))
    rw [List.length_erase_of_mem hx] at this
    have hp := List.length_pos_of_mem hx
    simp only [List.length_cons]; omega
theorem full_of_len : ∀ {l m : List Int}, l.Nodup → l ⊆ m → m.length ≤ l.length → m ⊆ l := by
  intro l m hl h he x hx
  apply Classical.byContradiction
  intro hn
  have := nodup_len (l := x :: l) (m := m) (List.nodup_cons.2 ⟨hn, hl⟩) (fun y hy => (List.mem_cons.1 hy).elim (fun e => by rw [e]; exact hx) (fun hy => h hy))
  simp only [List.length_cons] at this
  omega
end Go.Proofs.Ytngglgkemonibaa.L
