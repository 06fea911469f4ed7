/- T34: carcanetref03.Right. T38: carcanetref03.Near. Pl: plain facts of rows (for Rim: without what is reached). -/
import Derived.Test.YtnmocjhpbobahaaZ8
import Derived.Test.YtnmocjhpbobahaaZ23
import Derived.Test.YtnmocjhpbobahaaZ22
set_option linter.unusedVariables false
set_option linter.unusedSimpArgs false
set_option linter.unnecessarySimpa false
namespace Go.Proofs.Ytnmocjhpbobahaa.L
open Go Go.RowKit
set_option maxRecDepth 100000
set_option maxHeartbeats 4000000
variable {E : Env}
theorem w34 (n : Int) (es : List (Int × Int)) : ∃ c, Try.f23.body = some c ∧ RP (regOf Try.prog E 86 t23) c (argsSt 0 [gr n es]) (endsAs Try.prog Try.f23 (bv (decide (RightG n es)))) := by
  refine ⟨_, rfl, ?_⟩
  generalize hQ : endsAs Try.prog Try.f23 (bv (decide (RightG n es))) = Q
  simp only [argsSt]
  refine go ?_
  by_cases hbad : n < 0 ∨ 1000 < n ∨ 4000 < es.length
  · have hans : decide (RightG n es) = false := decide_eq_false fun h => by have := h.1; omega
    rw [hans] at hQ
    rcases (by omega : n < 0 ∨ (¬ n < 0 ∧ 1000 < n) ∨ (¬ n < 0 ∧ ¬ 1000 < n ∧ 4000 < es.length)) with h | ⟨h, h'⟩ | ⟨h, h', h''⟩
    all_goals
      refine go ?_
      show Q .ret _; refine fin_ret hQ rfl ?_
      rfl
  have h1 : ¬ n < 0 := by omega
  have h2 : ¬ 1000 < n := by omega
  have h3 : ¬ 4000 < es.length := by omega
  clear hbad
  refine go ?_
  apply rp_loop (fun k σ => ∃ i : Nat, i ≤ es.length ∧ k = es.length - i ∧ σ = [(1, ⟨.one, [.c (.bx true () [.sc (.int .i64 n), .sl false 2 () (EL es)])]⟩), (3, iv i)] ∧ ∀ x, x < i → okE n (ent es x) ∧ (0 < x → ltE (ent es (x - 1)) (ent es x))) es.length
  · exact ⟨0, by omega, by omega, rfl, by omega⟩
  rintro k σ ⟨i, hi, rfl, rfl, hno⟩
  by_cases hil : i < es.length
  case neg =>
    refine go ?_
    have : RightG n es := ⟨⟨by omega, by omega, by omega⟩, fun x hx => hno x (by omega)⟩
    show Q .ret _; refine fin_ret hQ rfl ?_
    rw [decide_eq_true this]; rfl
  by_cases hok : okE n (ent es i) ∧ (0 < i → ltE (ent es (i - 1)) (ent es i))
  case neg =>
    have hans : decide (RightG n es) = false := decide_eq_false fun h => hok (h.2 i hil)
    rw [hans] at hQ
    refine go ?_
    unfold okE ltE at hok
    rcases (by omega : (ent es i).1 < 0 ∨ (¬ (ent es i).1 < 0 ∧ n ≤ (ent es i).2) ∨ (¬ (ent es i).1 < 0 ∧ ¬ n ≤ (ent es i).2 ∧ (ent es i).2 ≤ (ent es i).1) ∨
      ((¬ (ent es i).1 < 0 ∧ ¬ n ≤ (ent es i).2 ∧ ¬ (ent es i).2 ≤ (ent es i).1) ∧ (0 < i ∧ ((ent es i).1 < (ent es (i - 1)).1 ∨ (¬ (ent es i).1 < (ent es (i - 1)).1 ∧ (ent es (i - 1)).1 = (ent es i).1 ∧ (ent es i).2 ≤ (ent es (i - 1)).2))))) with h | ⟨h, h'⟩ | ⟨h, h', h''⟩ | ⟨⟨h, h', h''⟩, h0, h3⟩
    case inr.inr.inr =>
      refine go ?_
      obtain ⟨u, rfl⟩ : ∃ u, i = u + 1 := ⟨i - 1, by omega⟩
      rw [Nat.add_sub_cancel] at h3
      rcases h3 with h3 | ⟨h3, h4, h5⟩
      all_goals
        refine go ?_
        show Q .ret _; refine fin_ret hQ rfl ?_
        rfl
    all_goals
      refine go ?_
      show Q .ret _; refine fin_ret hQ rfl ?_
      rfl
  have hnext : ∀ x, x < i + 1 → okE n (ent es x) ∧ (0 < x → ltE (ent es (x - 1)) (ent es x)) := by
    intro x hx
    rcases Nat.lt_succ_iff_lt_or_eq.1 hx with h | rfl
    · exact hno x h
    · exact hok
  unfold okE ltE at hok
  refine go ?_
  have h : ¬ (ent es i).1 < 0 ∧ ¬ n ≤ (ent es i).2 ∧ ¬ (ent es i).2 ≤ (ent es i).1 := by omega
  rcases (by omega : ¬ 0 < i ∨ (0 < i ∧ ((ent es (i - 1)).1 < (ent es i).1 ∨ (ent es (i - 1)).1 = (ent es i).1 ∧ (ent es (i - 1)).2 < (ent es i).2))) with h0 | ⟨h0, h1⟩
  · refine go ?_
    exact nxt (es.length - (i + 1)) (by omega) ⟨i + 1, by omega, by omega, rfl, hnext⟩
  obtain ⟨u, rfl⟩ : ∃ u, i = u + 1 := ⟨i - 1, by omega⟩
  rw [Nat.add_sub_cancel] at h1
  rcases h1 with h1 | ⟨h1, h2⟩
  all_goals
    refine go ?_
    exact nxt (es.length - (u + 1 + 1)) (by omega) ⟨u + 1 + 1, by omega, by omega, rfl, hnext⟩
def spec34 : Spec := spec1 asGr fun g => some (bv (decide (RightG g.1 g.2)))
theorem ok34 : SpecOk 23 spec34 := by
  intro us r h
  obtain ⟨x, g, rfl, hg, h⟩ := spec1_eq h
  obtain rfl := Option.some.inj h
  rw [asGr_eq hg]
  exact goodBy env0_ok Try.func23 rfl (Nat.le_of_ble_eq_true rfl) (by decide) (w34 g.1 g.2)
@[simp] theorem s34 (n : Int) (es : List (Int × Int)) : spec34 [gr n es] = some (bv (decide (RightG n es))) := by simp [spec34]
@[simp] theorem call34 {E : Env} {σ : St Unit} {t : Nat} {l : List Operand} : effCall Try.prog E ΩU σ t 23 l = callO E 23 t (argsOf Try.prog ΩU σ [26] l) := eff_call Try.func23 Try.params23
end Go.Proofs.Ytnmocjhpbobahaa.L
namespace Go.Proofs.Ytnmocjhpbobahaa.L
open Go Go.RowKit
set_option maxRecDepth 100000
set_option maxHeartbeats 4000000
def nb1 (v : Int) (e : Int × Int) : List Int := (if e.1 = v then [e.2] else []) ++ (if e.2 = v then [e.1] else [])
def nbL (es : List (Int × Int)) (v : Int) : List Int := es.flatMap (nb1 v)
def nearR (n : Int) (es : List (Int × Int)) (v : Int) : List Int := if RightG n es then sortR (nbL es v) else []
theorem nb1_len (v : Int) (e : Int × Int) : (nb1 v e).length ≤ 2 := by unfold nb1; split <;> split <;> simp
theorem nbL_len (es : List (Int × Int)) (v : Int) : (nbL es v).length ≤ 2 * es.length := by
  induction es with
  | nil => simp [nbL]
  | cons e l ih => have := nb1_len v e; simp only [nbL, List.flatMap_cons, List.length_append, List.length_cons] at ih ⊢; omega
theorem nbL_take (es : List (Int × Int)) (v : Int) (i : Nat) (h : i < es.length) : nbL (es.take (i + 1)) v = nbL (es.take i) v ++ nb1 v (ent es i) := by
  rw [ent_take h]; simp [nbL]
abbrev E38 : Env := ext (ext env0 23 spec34) 67 spec55
theorem E38_ok : EnvOk Try.prog E38 := ext_ok (ext_ok env0_ok ok34) ok55
theorem w38 (n : Int) (es : List (Int × Int)) (v : Int) : ∃ c, Try.f76.body = some c ∧ RP (regOf Try.prog E38 55 t76) c (argsSt 0 [gr n es, iv v]) (endsAs Try.prog Try.f76 (ow (nearR n es v))) := by
  refine ⟨_, rfl, ?_⟩
  generalize hQ : endsAs Try.prog Try.f76 (ow (nearR n es v)) = Q
  simp only [argsSt]
  by_cases hR : RightG n es
  case neg =>
    have hans : nearR n es v = [] := if_neg hR
    rw [hans] at hQ
    refine go ?_
    show Q .ret _; refine fin_ret hQ rfl ?_
    rfl
  have hlen : es.length ≤ 4000 := hR.1.2.2
  have hans : nearR n es v = sortR (nbL es v) := if_pos hR
  rw [hans] at hQ
  refine go ?_
  apply rp_loop (fun k σ => ∃ i : Nat, i ≤ es.length ∧ k = es.length - i ∧ σ = [(1, iv v), (2, gbx n es), (4, SV.dead), (5, ow (nbL (es.take i) v)), (6, iv i)]) es.length
  · exact ⟨0, by omega, by omega, rfl⟩
  rintro k σ ⟨i, hi, rfl, rfl⟩
  have hl2 := nbL_len (es.take i) v
  have hl3 : (es.take i).length ≤ i := by simp; omega
  by_cases hil : i < es.length
  case neg =>
    have hti : es.take i = es := List.take_of_length_le (by omega)
    rw [hti] at hl2 hl3 ⊢
    refine go ?_
    show Q .ret _; refine fin_ret hQ rfl ?_
    rfl
  have e := nbL_take es v i hil
  unfold nb1 at e
  generalize nbL (es.take i) v = A at *
  by_cases h1 : (ent es i).1 = v <;> by_cases h2 : (ent es i).2 = v
  all_goals
    first | rw [if_pos h1] at e | rw [if_neg h1] at e
    first | rw [if_pos h2] at e | rw [if_neg h2] at e
    refine go ?_
    refine nxt (es.length - (i + 1)) (by omega) ⟨i + 1, by omega, by omega, ?_⟩
    rw [e]
    simp
def spec38 : Spec := spec2 asGr asInt fun g v => some (ow (nearR g.1 g.2 v))
theorem ok38 : SpecOk 76 spec38 := by
  intro us r h
  obtain ⟨x, y, g, v, rfl, hg, hv, h⟩ := spec2_eq h
  obtain rfl := Option.some.inj h
  rw [asGr_eq hg, asInt_eq hv]
  exact goodBy E38_ok Try.func76 rfl (Nat.le_of_ble_eq_true rfl) (by decide) (w38 g.1 g.2 v)
@[simp] theorem s38 (n : Int) (es : List (Int × Int)) (v : Int) : spec38 [gr n es, iv v] = some (ow (nearR n es v)) := by
  unfold spec38; rw [spec2_v (asGr_gr n es) (asInt_iv v)]
@[simp] theorem call38 {E : Env} {σ : St Unit} {t : Nat} {l : List Operand} : effCall Try.prog E ΩU σ t 76 l = callO E 76 t (argsOf Try.prog ΩU σ [26, 3] l) := eff_call Try.func76 Try.params76
end Go.Proofs.Ytnmocjhpbobahaa.L
namespace Go.Proofs.Ytnmocjhpbobahaa.L
open Go Go.RowKit
def Adj (es : List (Int × Int)) (a b : Int) : Prop := (a, b) ∈ es ∨ (b, a) ∈ es
instance (es : List (Int × Int)) (a b : Int) : Decidable (Adj es a b) := by unfold Adj; infer_instance
theorem Adj.symm {es : List (Int × Int)} {a b : Int} (h : Adj es a b) : Adj es b a := h.elim .inr .inl
theorem mem_insR {x y : Int} {a : List Int} : x ∈ insR y a ↔ x = y ∨ x ∈ a := by
  unfold insR
  constructor
  · intro h
    rcases List.mem_append.1 h with h | h
    · exact .inr (List.mem_of_mem_take h)
    · rcases List.mem_cons.1 h with h | h
      · exact .inl h
      · exact .inr (List.mem_of_mem_drop h)
  · intro h
    rcases h with rfl | h
    · simp
    · rw [← List.take_append_drop (posU y a a.length) a] at h
      rcases List.mem_append.1 h with h | h
      · exact List.mem_append.2 (.inl h)
      · exact List.mem_append.2 (.inr (List.mem_cons.2 (.inr h)))
theorem len_insR (y : Int) (a : List Int) : (insR y a).length = a.length + 1 := by
  unfold insR
  have : (a.take (posU y a a.length) ++ a.drop (posU y a a.length)).length = a.length := by rw [List.take_append_drop]
  simp only [List.length_append, List.length_cons] at this ⊢
  omega
theorem mem_fold (l : List Int) : ∀ (a : List Int) (x : Int), x ∈ l.foldl (fun a x => insR x a) a ↔ x ∈ l ∨ x ∈ a := by
  induction l with
  | nil => simp
  | cons y l ih => 
    intro a x; rw [List.foldl_cons, ih, mem_insR, List.mem_cons]
    constructor
    · rintro (h | h | h)
      · exact .inl (.inr h)
      · exact .inl (.inl h)
      · exact .inr h
    · rintro ((h | h) | h)
      · exact .inr (.inl h)
      · exact .inl h
      · exact .inr (.inr h)
theorem mem_sortR {l : List Int} {x : Int} : x ∈ sortR l ↔ x ∈ l := by unfold sortR; rw [mem_fold]; simp
theorem len_fold (l : List Int) : ∀ a : List Int, (l.foldl (fun a x => insR x a) a).length = l.length + a.length := by
  induction l with
  | nil => simp
  | cons y l ih => intro a; rw [List.foldl_cons, ih, len_insR, List.length_cons]; omega
theorem len_sortR (l : List Int) : (sortR l).length = l.length := by unfold sortR; rw [len_fold]; simp
end Go.Proofs.Ytnmocjhpbobahaa.L
