/- V3: the law RimTells, its run. -/
import Derived.Test.YtnmocjhpbobahaaQ47
import Derived.Test.YtnmocjhpbobahaaQ48
import Derived.Test.YtnmocjhpbobahaaQ49
import Derived.Test.YtnmocjhpbobahaaQ50
import Derived.Test.YtnmocjhpbobahaaQ51
set_option linter.unusedVariables false
set_option linter.unusedSimpArgs false
set_option linter.unnecessarySimpa false
namespace Go.Proofs.Ytnmocjhpbobahaa.L
open Go Go.RowKit
set_option maxRecDepth 100000
set_option maxHeartbeats 4000000
def specShownQ : Spec := fun us => match us with
  | [] => some (bv true)
  | _ => none
@[simp] theorem sShownQ : specShownQ [] = some (bv true) := rfl
@[simp] theorem callShownQ {E : Env} {σ : St Unit} {t : Nat} {l : List Operand} : effCall Try.prog E ΩU σ t 9 l = callO E 9 t (argsOf Try.prog ΩU σ [] l) := eff_call Try.func9 Try.params9
theorem okShownQ : SpecOk 9 specShownQ := by
  intro us r h
  cases us with
  | nil => simp only [specShownQ, Option.some.injEq] at h; subst h; exact goodShown
  | cons _ _ => cases h
@[simp] theorem s18w (n : Int) (l : List (Int × Int)) (hl : l.length ≤ 17592186043904) : spec18 [gr n l, iv 14] = some (gro (anyN n 14) (anyEs n 14 l)) := s18 n l 14 hl (by omega)
noncomputable abbrev EQ3 : Env := ext (ext (ext (ext (ext (ext env0 9 specShownQ) 10 spec18) 13 specRunR) 12 specTheirs) 14 specRunT) 11 specSame20
@[simp] theorem callRunR {E : Env} {σ : St Unit} {t : Nat} {l : List Operand} : effCall Try.prog E ΩU σ t 13 l = callO E 13 t (argsOf Try.prog ΩU σ [26] l) := eff_call Try.func13 Try.params13
theorem runF_len {n : Nat} : ∀ (k : Nat) {r : Rst} {cs : List Cu}, RstI n r → ((runF k r cs).2.length : Int) ≤ cs.length + r.count
  | 0, r, cs, h => by have := h.cnt_le; show (cs.length : Int) ≤ _; omega
  | k + 1, r, cs, h => by
    have hc := h.cnt_le
    rw [runF]
    split
    · split <;> (show (cs.length : Int) ≤ _; omega)
    · split
      · show (cs.length : Int) ≤ _; omega
      · next e he =>
        obtain ⟨a, b, c, p, q, s, rfl, k2, _⟩ := leastF_cut h he
        have hds := do_step h k2
        have h4 := k2.cnt
        split
        · next hd =>
          have hd2 := hds.2 hd
          have := runF_len k (cs := cs ++ [((a : Int), (b : Int), (c : Int), p, q, s)]) hds.1
          rw [List.length_append] at this
          simp only [List.length_cons, List.length_nil] at this
          omega
        · simp only [List.length_append, List.length_cons, List.length_nil]; omega
theorem runG_len {n : Nat} {es : List (Int × Int)} (hR : RightG n es) : (runG n es).2.length ≤ n := by
  unfold runG
  split
  · exact Nat.zero_le _
  · split
    · exact Nat.zero_le _
    · have := runF_len (n + 1) (cs := []) (begin_ok hR)
      have h1 := (begin_ok hR).cnt_le
      simp only [List.length_nil] at this
      omega
attribute [local simp] List.take_of_length_le
theorem wRimTells (n0 : Int) (l : List (Int × Int)) (hl : l.length ≤ 17592186043904) : ∃ k, Try.f3.body = some k ∧ RP (regOf Try.prog EQ3 17 u3) k (argsSt 0 [gr n0 l]) (endsAs Try.prog Try.f3 (bv true)) := by
  refine ⟨_, rfl, ?_⟩
  generalize hQ : endsAs Try.prog Try.f3 (bv true) = Q
  simp only [argsSt]
  have hR := any_right n0 (most := 14) (by omega) l
  have hN := (anyN_ok n0 14).1
  refine go ?_
  generalize anyEs n0 14 l = es at *
  generalize anyN n0 14 = n at *
  have hlen := runG_len hR
  have hlen2 : (runG n es).2.length ≤ 60 := by omega
  have hlen3 : (runG n es).2.length ≤ 1000000 := by omega
  refine go ?_
  show Q .ret _; refine fin_ret hQ rfl ?_
  rfl
theorem EQ3_ok : EnvOk Try.prog EQ3 := ext_ok (ext_ok (ext_ok (ext_ok (ext_ok (ext_ok env0_ok okShownQ) ok18) okRunR) okTheirs) okRunT) okSame20
theorem goodRimTells (n0 : Int) (l : List (Int × Int)) (hl : l.length ≤ 17592186043904) : Good Try.prog 3 [gr n0 l] (bv true) :=
  goodBy2 EQ3_ok Try.func3 rfl (Nat.le_of_ble_eq_true rfl) (by decide) (wRimTells n0 l hl)
end Go.Proofs.Ytnmocjhpbobahaa.L
