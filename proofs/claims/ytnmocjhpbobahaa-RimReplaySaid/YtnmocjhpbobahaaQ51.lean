/- V4: the law RimReplay, its run. -/
import Derived.Test.YtnmocjhpbobahaaQ45
import Derived.Test.YtnmocjhpbobahaaQ46
import Derived.Test.YtnmocjhpbobahaaQ40
import Derived.Test.YtnmocjhpbobahaaQ48
import Derived.Test.YtnmocjhpbobahaaQ49
import Derived.Test.YtnmocjhpbobahaaQ50
set_option linter.unusedVariables false
set_option linter.unusedSimpArgs false
set_option linter.unnecessarySimpa false
namespace Go.Proofs.Ytnmocjhpbobahaa.L
open Go Go.RowKit
set_option maxRecDepth 100000
set_option maxHeartbeats 4000000
def specShownQ : Spec := fun us => match us with
  | [] => some (bv true)
  | _ => none
@[simp] theorem sShownQ : specShownQ [] = some (bv true) := rfl
@[simp] theorem callShownQ {E : Env} {σ : St Unit} {t : Nat} {l : List Operand} : effCall Try.prog E ΩU σ t 9 l = callO E 9 t (argsOf Try.prog ΩU σ [] l) := eff_call Try.func9 Try.params9
theorem okShownQ : SpecOk 9 specShownQ := by
  intro us r h
  cases us with
  | nil => simp only [specShownQ, Option.some.injEq] at h; subst h; exact goodShown
  | cons _ _ => cases h
@[simp] theorem s18w (n : Int) (l : List (Int × Int)) (hl : l.length ≤ 17592186043904) : spec18 [gr n l, iv 14] = some (gro (anyN n 14) (anyEs n 14 l)) := s18 n l 14 hl (by omega)
noncomputable abbrev EQ4 : Env := ext (ext (ext (ext (ext (ext env0 9 specShownQ) 10 spec18) 16 specOurs) 15 specReplayR) 17 specReplT) 18 specSameS
@[simp] theorem callReplayR {E : Env} {σ : St Unit} {t : Nat} {l : List Operand} : effCall Try.prog E ΩU σ t 15 l = callO E 15 t (argsOf Try.prog ΩU σ [26, 33] l) := eff_call Try.func15 Try.params15
attribute [local simp] List.take_of_length_le
theorem wRimReplay (n0 : Int) (l : List (Int × Int)) (c : List Cu) (hl : l.length ≤ 17592186043904) (hc : c.length ≤ 17592186043904) : ∃ k, Try.f4.body = some k ∧ RP (regOf Try.prog EQ4 45 u4) k (argsSt 0 [gr n0 l, cuts c]) (endsAs Try.prog Try.f4 (bv true)) := by
  refine ⟨_, rfl, ?_⟩
  generalize hQ : endsAs Try.prog Try.f4 (bv true) = Q
  simp only [argsSt]
  have hR := any_right n0 (most := 14) (by omega) l
  have hN := (anyN_ok n0 14).1
  refine go ?_
  generalize anyEs n0 14 l = es at *
  generalize anyN n0 14 = n at *
  refine go ?_
  have hm : (c.take (min c.length 30)).length ≤ 30 := by rw [List.length_take]; omega
  generalize c.take (min c.length 30) = m at *
  have hm1 : m.length ≤ 17592186043904 := by omega
  have hRl : RightG n es ∧ m.length ≤ 1000000 := ⟨hR, by omega⟩
  obtain ⟨hk, hkl⟩ := replF_ok (l := m) (begin_ok hR)
  have hnn := hk.near
  have b1 : (leftF (replF n (beginF n es) m).1 (replF n (beginF n es) m).1.near.length).length ≤ 1000000 := by
    rw [leftF_len]
    have := leftN_le (replF n (beginF n es) m).1.gone (replF n (beginF n es) m).1.near.length
    omega
  have b2 : (edgesF (replF n (beginF n es) m).1 (replF n (beginF n es) m).1.near.length).length ≤ 1000000 := by
    rw [hnn]
    have := (edges_right hk (by omega)).1
    omega
  have b3 : (marksF (replF n (beginF n es) m).1 (replF n (beginF n es) m).1.near.length).length ≤ 1000000 := by
    have := marksF_le (replF n (beginF n es) m).1 (replF n (beginF n es) m).1.near.length
    omega
  have bb := And.intro b1 (And.intro b2 b3)
  refine go ?_
  show Q .ret _; refine fin_ret hQ rfl ?_
  rfl
theorem EQ4_ok : EnvOk Try.prog EQ4 := ext_ok (ext_ok (ext_ok (ext_ok (ext_ok (ext_ok env0_ok okShownQ) ok18) okOurs) okReplayR) okReplT) okSameS
theorem goodRimReplay (n0 : Int) (l : List (Int × Int)) (c : List Cu) (hl : l.length ≤ 17592186043904) (hc : c.length ≤ 17592186043904) : Good Try.prog 4 [gr n0 l, cuts c] (bv true) :=
  goodBy2 EQ4_ok Try.func4 rfl (Nat.le_of_ble_eq_true rfl) (by decide) (wRimReplay n0 l c hl hc)
end Go.Proofs.Ytnmocjhpbobahaa.L
