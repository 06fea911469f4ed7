/- V6: the law RimAgainst, its run. -/
import Derived.Test.YtnmocjhpbobahaaY46
import Derived.Test.YtnmocjhpbobahaaY48
import Derived.Test.YtnmocjhpbobahaaY32
import Derived.Test.YtnmocjhpbobahaaY49
import Derived.Test.YtnmocjhpbobahaaY50
set_option linter.unusedVariables false
set_option linter.unusedSimpArgs false
set_option linter.unnecessarySimpa false
namespace Go.Proofs.Ytnmocjhpbobahaa.L
open Go Go.RowKit
set_option maxRecDepth 100000
set_option maxHeartbeats 4000000
def specShownQ : Spec := fun us => match us with
  | [] => some (bv true)
  | _ => none
@[simp] theorem sShownQ : specShownQ [] = some (bv true) := rfl
@[simp] theorem callShownQ {E : Env} {σ : St Unit} {t : Nat} {l : List Operand} : effCall Try.prog E ΩU σ t 9 l = callO E 9 t (argsOf Try.prog ΩU σ [] l) := eff_call Try.func9 Try.params9
theorem okShownQ : SpecOk 9 specShownQ := by
  intro us r h
  cases us with
  | nil => simp only [specShownQ, Option.some.injEq] at h; subst h; exact goodShown
  | cons _ _ => cases h
@[simp] theorem s18x (n : Int) (l : List (Int × Int)) (hl : l.length ≤ 17592186043904) : spec18 [gr n l, iv 20] = some (gro (anyN n 20) (anyEs n 20 l)) := s18 n l 20 hl (by omega)
noncomputable abbrev EQ6 : Env := ext (ext (ext (ext (ext env0 9 specShownQ) 10 spec18) 13 specRunR) 19 specRef) 16 specOurs
@[simp] theorem callRunR {E : Env} {σ : St Unit} {t : Nat} {l : List Operand} : effCall Try.prog E ΩU σ t 13 l = callO E 13 t (argsOf Try.prog ΩU σ [26] l) := eff_call Try.func13 Try.params13
theorem runF_len {n : Nat} : ∀ (k : Nat) {r : Rst} {cs : List Cu}, RstI n r → ((runF k r cs).2.length : Int) ≤ cs.length + r.count
  | 0, r, cs, h => by have := h.cnt_le; show (cs.length : Int) ≤ _; omega
  | k + 1, r, cs, h => by
    have hc := h.cnt_le
    rw [runF]
    split
    · split <;> (show (cs.length : Int) ≤ _; omega)
    · split
      · show (cs.length : Int) ≤ _; omega
      · next e he =>
        obtain ⟨a, b, c, p, q, s, rfl, k2, _⟩ := leastF_cut h he
        have hds := do_step h k2
        have h4 := k2.cnt
        split
        · next hd =>
          have hd2 := hds.2 hd
          have := runF_len k (cs := cs ++ [((a : Int), (b : Int), (c : Int), p, q, s)]) hds.1
          rw [List.length_append] at this
          simp only [List.length_cons, List.length_nil] at this
          omega
        · simp only [List.length_append, List.length_cons, List.length_nil]; omega
theorem runG_len {n : Nat} {es : List (Int × Int)} (hR : RightG n es) : (runG n es).2.length ≤ n := by
  unfold runG
  split
  · exact Nat.zero_le _
  · split
    · exact Nat.zero_le _
    · have := runF_len (n + 1) (cs := []) (begin_ok hR)
      have h1 := (begin_ok hR).cnt_le
      simp only [List.length_nil] at this
      omega
theorem refu_t {n : Nat} {es : List (Int × Int)} {e : Int} {l : List Cu} (h : refuB n es e l = true) : refuB n es e l = true := h
theorem refu_f {n : Nat} {es : List (Int × Int)} {e : Int} {l : List Cu} (h : refuB n es e l = false) : refuB n es e l = false := h
attribute [local simp] List.take_of_length_le refu_t refu_f
theorem wRimAgainst (n0 : Int) (l : List (Int × Int)) (e0 : Int) (c : List Cu) (hl : l.length ≤ 17592186043904) (hc : c.length ≤ 17592186043904) : ∃ k, Try.f6.body = some k ∧ RP (regOf Try.prog EQ6 33 u6) k (argsSt 0 [gr n0 l, tr e0 c]) (endsAs Try.prog Try.f6 (bv true)) := by
  refine ⟨_, rfl, ?_⟩
  generalize hQ : endsAs Try.prog Try.f6 (bv true) = Q
  simp only [argsSt]
  have hR := any_right n0 (most := 20) (by omega) l
  have hN := (anyN_ok n0 20).1
  refine go ?_
  generalize anyEs n0 20 l = es at *
  generalize anyN n0 20 = n at *
  have hlen := runG_len hR
  have hown := own_trace hR
  have hgood := good_none hR
  obtain ⟨res, hres⟩ : ∃ res, res = runG n es := ⟨_, rfl⟩
  rw [← hres] at hlen hown hgood
  simp only [← hres]
  clear hres
  obtain ⟨e, out⟩ := res
  simp only at hlen hown hgood
  have hlen2 : out.length ≤ 17592186043904 := by omega
  have hRl : RightG n es ∧ out.length ≤ 1000000 := ⟨hR, by omega⟩
  by_cases he : e = 1
  · subst he
    have hown : refuB n es 1 out = false := hown
    have hm0 : (c.take (min c.length 30)).length ≤ 30 := by rw [List.length_take]; omega
    have hm1 : (c.take 30).length ≤ 17592186043904 := by rw [List.length_take]; omega
    have hRm : RightG n es ∧ (c.take 30).length ≤ 1000000 := ⟨hR, by rw [List.length_take]; omega⟩
    have hall : refuB n es e0 (c.take 30) = false := hgood rfl _ _
    refine go ?_
    show Q .ret _; refine fin_ret hQ rfl ?_
    rfl
  · have hown : refuB n es e out = true := by rw [hown]; exact decide_eq_true he
    refine go ?_
    show Q .ret _; refine fin_ret hQ rfl ?_
    rfl
theorem EQ6_ok : EnvOk Try.prog EQ6 := ext_ok (ext_ok (ext_ok (ext_ok (ext_ok env0_ok okShownQ) ok18) okRunR) okRef) okOurs
theorem goodRimAgainst (n0 : Int) (l : List (Int × Int)) (e : Int) (c : List Cu) (hl : l.length ≤ 17592186043904) (hc : c.length ≤ 17592186043904) : Good Try.prog 6 [gr n0 l, tr e c] (bv true) :=
  goodBy2 EQ6_ok Try.func6 rfl (Nat.le_of_ble_eq_true rfl) (by decide) (wRimAgainst n0 l e c hl hc)
end Go.Proofs.Ytnmocjhpbobahaa.L
