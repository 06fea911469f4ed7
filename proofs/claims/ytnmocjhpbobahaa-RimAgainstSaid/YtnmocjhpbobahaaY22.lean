/- R53: rest.wants. -/
import Derived.Test.YtnmocjhpbobahaaY20
import Derived.Test.YtnmocjhpbobahaaY21
set_option linter.unusedVariables false
set_option linter.unusedSimpArgs false
set_option linter.unnecessarySimpa false
namespace Go.Proofs.Ytnmocjhpbobahaa.L
open Go Go.RowKit
set_option maxRecDepth 100000
set_option maxHeartbeats 4000000
attribute [local simp] mk0 mk1 mk2
theorem wWants (n : Nat) (r : Rst) (hr : RstOk n r) (hn : n ≤ 1000000) (a b c p q s : Nat) (ha : a < n) (hb : b < n) (hc : c < n) (hp : p < n) (hq : q < n) (hs : s < n) (hm : ∀ v, v < n → nth r.mark v = 0 ∨ nth r.mark v = 1 ∨ nth r.mark v = 2)  : ∃ k, Try.f53.body = some k ∧ RP (regOf Try.prog EWants 167 u53) k (argsSt 0 [rf r, cu6 ((a : Int), (b : Int), (c : Int), (p : Int), (q : Int), (s : Int))]) (endsAs Try.prog Try.f53 (wnB (wantsF r a b c p q s).1 (wantsF r a b c p q s).2)) := by
  by_cases hh : p = q ∨ p = s ∨ q = s ∨ 1 < cnt3 r 2 a b c ∨ 2 < cnt3 r 1 a b c
  · exact wWants0 n r hr hn a b c p q s ha hb hc hp hq hs hm hh
  · have h1 : ¬ p = q := fun h => hh (.inl h)
    have h2 : ¬ p = s := fun h => hh (.inr (.inl h))
    have h3 : ¬ q = s := fun h => hh (.inr (.inr (.inl h)))
    have h4 : ¬ 1 < cnt3 r 2 a b c := fun h => hh (.inr (.inr (.inr (.inl h))))
    have h5 : ¬ 2 < cnt3 r 1 a b c := fun h => hh (.inr (.inr (.inr (.inr h))))
    by_cases h6 : cnt3 r 2 a b c = 1
    · exact wWants1 n r hr hn a b c p q s ha hb hc hp hq hs hm h1 h2 h3 h4 h5 h6
    · exact wWants2 n r hr hn a b c p q s ha hb hc hp hq hs hm h1 h2 h3 h4 h5 h6
theorem EWants_ok : EnvOk Try.prog EWants := ext_ok (ext_ok (ext_ok env0_ok okCorners) okBeside) okInner
def WantsOk (r : Rst) (a b c p q s : Nat) : Prop := ∃ n : Nat, RstOk n r ∧ n ≤ 1000000 ∧ (a < n ∧ b < n ∧ c < n ∧ p < n ∧ q < n ∧ s < n) ∧ ∀ v, v < n → nth r.mark v = 0 ∨ nth r.mark v = 1 ∨ nth r.mark v = 2
noncomputable def specWants : Spec := fun us => match us with
  | [x, y] => match asRst x, asCu y with
    | some r, some e => whenC ((0 ≤ e.1 ∧ 0 ≤ e.2.1 ∧ 0 ≤ e.2.2.1 ∧ 0 ≤ e.2.2.2.1 ∧ 0 ≤ e.2.2.2.2.1 ∧ 0 ≤ e.2.2.2.2.2) ∧ WantsOk r e.1.toNat e.2.1.toNat e.2.2.1.toNat e.2.2.2.1.toNat e.2.2.2.2.1.toNat e.2.2.2.2.2.toNat) (wnB (wantsF r e.1.toNat e.2.1.toNat e.2.2.1.toNat e.2.2.2.1.toNat e.2.2.2.2.1.toNat e.2.2.2.2.2.toNat).1 (wantsF r e.1.toNat e.2.1.toNat e.2.2.1.toNat e.2.2.2.1.toNat e.2.2.2.2.1.toNat e.2.2.2.2.2.toNat).2)
    | _, _ => none
  | _ => none
theorem okWants : SpecOk 53 specWants := by
  intro us R h
  unfold specWants at h
  split at h
  · split at h
    · next x y _ r e h1 h2 =>
      obtain ⟨⟨⟨g1, g2, g3, g4, g5, g6⟩, n, hr, hn, ⟨a1, a2, a3, a4, a5, a6⟩, hm⟩, rfl⟩ := whenC_eq h
      rw [asRst_eq h1, asCu_eq h2]
      have hw := wWants n r hr hn e.1.toNat e.2.1.toNat e.2.2.1.toNat e.2.2.2.1.toNat e.2.2.2.2.1.toNat e.2.2.2.2.2.toNat a1 a2 a3 a4 a5 a6 hm
      rw [show (e.1.toNat : Int) = e.1 by omega, show (e.2.1.toNat : Int) = e.2.1 by omega, show (e.2.2.1.toNat : Int) = e.2.2.1 by omega, show (e.2.2.2.1.toNat : Int) = e.2.2.2.1 by omega, show (e.2.2.2.2.1.toNat : Int) = e.2.2.2.2.1 by omega, show (e.2.2.2.2.2.toNat : Int) = e.2.2.2.2.2 by omega] at hw
      exact goodBy2 EWants_ok Try.func53 rfl (Nat.le_of_ble_eq_true rfl) (by decide) hw
    · cases h
  · cases h
@[simp] theorem sWantsR {r : Rst} {a b c p q s : Nat} (h : WantsOk r a b c p q s) : specWants [⟨.one, [.c (rstF r)]⟩, cu6 ((a : Int), (b : Int), (c : Int), (p : Int), (q : Int), (s : Int))] = some (wnB (wantsF r a b c p q s).1 (wantsF r a b c p q s).2) := by
  unfold specWants
  simp only [asRst_rst, asCu_cu]
  exact whenC_pos _ ⟨by omega, h⟩
@[simp] theorem callWants {E : Env} {σ : St Unit} {t : Nat} {l : List Operand} : effCall Try.prog E ΩU σ t 53 l = callO E 53 t (argsOf Try.prog ΩU σ [63, 59] l) := eff_call Try.func53 Try.params53
end Go.Proofs.Ytnmocjhpbobahaa.L
