/- S2: contracts by specs. -/
import Derived.Test.YtngglgkemonibaaQ7
import Derived.Test.YtngglgkemonibaaQ8
set_option linter.unusedVariables false
set_option linter.unusedSimpArgs false
set_option linter.unnecessarySimpa false
namespace Go.Proofs.Ytngglgkemonibaa.L
open Go Go.RowKit
set_option maxRecDepth 100000

theorem tabs_ok : tabsOk Try.prog tabs = true := by kernel_rfl
abbrev Spec := List (SV Unit) → Option (SV Unit)
def SpecOk (f : FuncId) (s : Spec) : Prop := ∀ us r, s us = some r → Good Try.prog f us r
def env0 : Env := fun _ _ => none
theorem env0_ok : EnvOk Try.prog env0 := fun _ _ _ h => by cases h
def ext (E : Env) (f : FuncId) (s : Spec) : Env := fun g us => if g = f then s us else E g us
@[simp] theorem ext_same (E : Env) (f : FuncId) (s : Spec) (us : List (SV Unit)) : ext E f s f us = s us := by simp [ext]
theorem ext_other (E : Env) (f g : FuncId) (s : Spec) (us : List (SV Unit)) (h : g ≠ f) : ext E f s g us = E g us := by simp [ext, h]
theorem ext_ok {E : Env} (hE : EnvOk Try.prog E) {f : FuncId} {s : Spec} (hs : SpecOk f s) : EnvOk Try.prog (ext E f s) := by
  intro g us r h
  unfold ext at h
  split at h
  · next e => subst e; exact hs us r h
  · exact hE g us r h
theorem goodBy {E : Env} (hE : EnvOk Try.prog E) {f : FuncId} {fn : Func} {t : List (Nat × RC)} {us : List (SV Unit)} {r : SV Unit} (hf : Try.prog.funcs[f]? = some fn) (ht : tabs.lookup f = some t) (hl : us.length ≤ fn.ntmps) (hn : (fn.name == "runtime.NumGoroutine") = false)
    (h : ∃ c, fn.body = some c ∧ RP (regOf Try.prog E fn.ntmps t) c (argsSt 0 us) (endsAs Try.prog fn r)) : Good Try.prog f us r := by
  obtain ⟨c, hc, h⟩ := h
  exact good_of hE tabs_ok hf hc ht ⟨hl, hn⟩ h

/-! ### what cells tell -/
def toInts : List (Cell Unit) → Option (List Int)
  | [] => some []
  | c :: l => match c, toInts l with
    | .sc (.int .i64 n), some m => some (n :: m)
    | _, _ => none
@[simp] theorem toInts_map (l : List Int) : toInts (IL l) = some l := by
  induction l with
  | nil => rfl
  | cons x l ih => simp only [IL, List.map_cons, toInts] at ih ⊢; rw [ih]
theorem toInts_eq : ∀ {row : List (Cell Unit)} {l : List Int}, toInts row = some l → row = IL l
  | [], l, h => by simp only [toInts, Option.some.injEq] at h; subst h; rfl
  | c :: row, l, h => by
    simp only [toInts] at h
    split at h
    · next n m _ hm => simp only [Option.some.injEq] at h; subst h; rw [toInts_eq hm]; rfl
    · cases h
def asInts : SV Unit → Option (List Int)
  | ⟨.one, [.c (.sl false 1 () row)]⟩ => toInts row
  | _ => none
@[simp] theorem asInts_ints (l : List Int) : asInts (ints l) = some l := toInts_map l
theorem asInts_eq {v : SV Unit} {l : List Int} (h : asInts v = some l) : v = ints l := by
  unfold asInts at h
  split at h
  · rw [toInts_eq h]
  · cases h
def asInt : SV Unit → Option Int
  | ⟨.one, [.c (.sc (.int .i64 n))]⟩ => some n
  | _ => none
@[simp] theorem asInt_iv (n : Int) : asInt (iv n) = some n := rfl
theorem asInt_eq {v : SV Unit} {n : Int} (h : asInt v = some n) : v = iv n := by
  unfold asInt at h
  split at h
  · simp only [Option.some.injEq] at h; subst h; rfl
  · cases h
def len59 : Nat := 2 ^ 59
/-- Two arguments. -/
def spec2 {α β : Type} (a : SV Unit → Option α) (b : SV Unit → Option β) (g : α → β → Option (SV Unit)) : Spec
  | [x, y] => match a x, b y with
    | some l, some m => g l m
    | _, _ => none
  | _ => none
theorem spec2_eq {α β : Type} {a : SV Unit → Option α} {b : SV Unit → Option β} {g : α → β → Option (SV Unit)} {us : List (SV Unit)} {r : SV Unit} (h : spec2 a b g us = some r) : ∃ x y l m, us = [x, y] ∧ a x = some l ∧ b y = some m ∧ g l m = some r := by
  unfold spec2 at h
  split at h
  · next x y =>
    split at h
    · next l m hl hm => exact ⟨x, y, l, m, rfl, hl, hm, h⟩
    · cases h
  · cases h
def spec1 {α : Type} (a : SV Unit → Option α) (g : α → Option (SV Unit)) : Spec
  | [x] => match a x with
    | some l => g l
    | none => none
  | _ => none
theorem spec1_eq {α : Type} {a : SV Unit → Option α} {g : α → Option (SV Unit)} {us : List (SV Unit)} {r : SV Unit} (h : spec1 a g us = some r) : ∃ x l, us = [x] ∧ a x = some l ∧ g l = some r := by
  unfold spec1 at h
  split at h
  · next x =>
    split at h
    · next l hl => exact ⟨x, l, rfl, hl, h⟩
    · cases h
  · cases h
def when (p : Prop) [Decidable p] (r : SV Unit) : Option (SV Unit) := if p then some r else none
theorem when_eq {p : Prop} [Decidable p] {r r' : SV Unit} (h : when p r = some r') : p ∧ r = r' := by
  unfold when at h
  split at h
  · next hp => exact ⟨hp, by simpa using h⟩
  · cases h
theorem when_pos {p : Prop} [Decidable p] (r : SV Unit) (h : p) : when p r = some r := if_pos h
end Go.Proofs.Ytngglgkemonibaa.L
