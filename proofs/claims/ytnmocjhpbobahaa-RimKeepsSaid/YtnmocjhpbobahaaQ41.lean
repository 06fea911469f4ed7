/- Ta: what is known of the first functions. Pl: plain facts of rows (for Rim: without what is reached). -/
import Derived.Test.YtnmocjhpbobahaaQ9
import Derived.Test.YtnmocjhpbobahaaQ40
import Derived.Test.YtnmocjhpbobahaaQ11
set_option linter.unusedVariables false
set_option linter.unusedSimpArgs false
set_option linter.unnecessarySimpa false
namespace Go.Proofs.Ytnmocjhpbobahaa.L
open Go Go.RowKit
variable {E : Env} {σ : St Unit} {t : Nat} {l : List Operand}
@[simp] theorem s26 (l : List Int) (v : Int) (h : l.length ≤ 2 ^ 59) : spec26 [ints l, iv v] = some (bv (l.contains v)) := by
  unfold spec26; rw [spec2_v (asInts_ints l) (asInt_iv v)]; exact when_pos _ h
@[simp] theorem s55 (l : List Int) (h : l.length ≤ 17592186043904) : spec55 [ints l] = some (ow (sortR l)) := by
  unfold spec55; rw [spec1_v _ _ _ _ (asInts_ints l)]; exact when_pos _ h
@[simp] theorem s19 (a b : List Int) (h : a.length ≤ 2 ^ 59) : spec19 [ints a, ints b] = some (bv (decide (a = b))) := by
  unfold spec19; rw [spec2_v (asInts_ints a) (asInts_ints b)]; exact when_pos _ h
@[simp] theorem call19 : effCall Try.prog E ΩU σ t 41 l = callO E 41 t (argsOf Try.prog ΩU σ [39, 39] l) := eff_call Try.func41 Try.params41
@[simp] theorem call26 : effCall Try.prog E ΩU σ t 66 l = callO E 66 t (argsOf Try.prog ΩU σ [39, 3] l) := eff_call Try.func66 Try.params66
@[simp] theorem call55 : effCall Try.prog E ΩU σ t 67 l = callO E 67 t (argsOf Try.prog ΩU σ [39] l) := eff_call Try.func67 Try.params67
end Go.Proofs.Ytnmocjhpbobahaa.L
namespace Go.Proofs.Ytnmocjhpbobahaa.L
open Go Go.RowKit
def Adj (es : List (Int × Int)) (a b : Int) : Prop := (a, b) ∈ es ∨ (b, a) ∈ es
instance (es : List (Int × Int)) (a b : Int) : Decidable (Adj es a b) := by unfold Adj; infer_instance
theorem Adj.symm {es : List (Int × Int)} {a b : Int} (h : Adj es a b) : Adj es b a := h.elim .inr .inl
theorem mem_insR {x y : Int} {a : List Int} : x ∈ insR y a ↔ x = y ∨ x ∈ a := by
  unfold insR
  constructor
  · intro h
    rcases List.mem_append.1 h with h | h
    · exact .inr (List.mem_of_mem_take h)
    · rcases List.mem_cons.1 h with h | h
      · exact .inl h
      · exact .inr (List.mem_of_mem_drop h)
  · intro h
    rcases h with rfl | h
    · simp
    · rw [← List.take_append_drop (posU y a a.length) a] at h
      rcases List.mem_append.1 h with h | h
      · exact List.mem_append.2 (.inl h)
      · exact List.mem_append.2 (.inr (List.mem_cons.2 (.inr h)))
theorem len_insR (y : Int) (a : List Int) : (insR y a).length = a.length + 1 := by
  unfold insR
  have : (a.take (posU y a a.length) ++ a.drop (posU y a a.length)).length = a.length := by rw [List.take_append_drop]
  simp only [List.length_append, List.length_cons] at this ⊢
  omega
theorem mem_fold (l : List Int) : ∀ (a : List Int) (x : Int), x ∈ l.foldl (fun a x => insR x a) a ↔ x ∈ l ∨ x ∈ a := by
  induction l with
  | nil => simp
  | cons y l ih => 
    intro a x; rw [List.foldl_cons, ih, mem_insR, List.mem_cons]
    constructor
    · rintro (h | h | h)
      · exact .inl (.inr h)
      · exact .inl (.inl h)
      · exact .inr h
    · rintro ((h | h) | h)
      · exact .inr (.inl h)
      · exact .inl h
      · exact .inr (.inr h)
theorem mem_sortR {l : List Int} {x : Int} : x ∈ sortR l ↔ x ∈ l := by unfold sortR; rw [mem_fold]; simp
theorem len_fold (l : List Int) : ∀ a : List Int, (l.foldl (fun a x => insR x a) a).length = l.length + a.length := by
  induction l with
  | nil => simp
  | cons y l ih => intro a; rw [List.foldl_cons, ih, len_insR, List.length_cons]; omega
theorem len_sortR (l : List Int) : (sortR l).length = l.length := by unfold sortR; rw [len_fold]; simp
theorem nodup_len : ∀ {l m : List Int}, l.Nodup → l ⊆ m → l.length ≤ m.length
  | [], _, _, _ => by simp
  | x :: l, m, hl, h => by
    rw [List.nodup_cons] at hl
    have hx : x ∈ m := h (by simp)
    have := nodup_len (l := l) (m := m.erase x) hl.2 fun y hy => (List.mem_erase_of_ne (fun e : y = x => hl.1 (by rw [← e]; exact hy))).2 (h (by simp [hy]))
    rw [List.length_erase_of_mem hx] at this
    have hp := List.length_pos_of_mem hx
    simp only [List.length_cons]; omega
theorem full_of_len : ∀ {l m : List Int}, l.Nodup → l ⊆ m → m.length ≤ l.length → m ⊆ l := by
  intro l m hl h he x hx
  apply Classical.byContradiction
  intro hn
  have := nodup_len (l := x :: l) (m := m) (List.nodup_cons.2 ⟨hn, hl⟩) (fun y hy => (List.mem_cons.1 hy).elim (fun e => by rw [e]; exact hx) (fun hy => h hy))
  simp only [List.length_cons] at this
  omega
end Go.Proofs.Ytnmocjhpbobahaa.L
