/- T13: carcanetref05.IsPath. -/
import Derived.Test.YtngglgkemonibaaQ20
import Derived.Test.YtngglgkemonibaaQ19
set_option linter.unusedVariables false
set_option linter.unusedSimpArgs false
set_option linter.unnecessarySimpa false
namespace Go.Proofs.Ytngglgkemonibaa.L
open Go Go.RowKit
set_option maxRecDepth 100000
set_option maxHeartbeats 4000000
def okP (n : Int) (es : List (Int × Int)) (p : List Int) (i : Nat) : Prop := 0 ≤ nth p i ∧ nth p i < n ∧ (0 < i → HasG n es (nth p (i - 1)) (nth p i))
def PathG (n : Int) (es : List (Int × Int)) (p : List Int) : Prop := RightG n es ∧ 0 < p.length ∧ p.Nodup ∧ ∀ i, i < p.length → okP n es p i
instance (n : Int) (es : List (Int × Int)) (p : List Int) (i : Nat) : Decidable (okP n es p i) := by unfold okP; infer_instance
instance (n : Int) (es : List (Int × Int)) (p : List Int) : Decidable (PathG n es p) := by unfold PathG; infer_instance
abbrev E13 : Env := ext (ext (ext env0 34 spec34) 35 spec35) 27 spec27
theorem E13_ok : EnvOk Try.prog E13 := ext_ok (ext_ok (ext_ok env0_ok ok34) ok35) ok27
theorem w13 (n : Int) (es : List (Int × Int)) (p : List Int) (hp : p.length ≤ 17592186043904) : ∃ c, Try.f13.body = some c ∧ RP (regOf Try.prog E13 57 t13) c (argsSt 0 [gr n es, ints p]) (endsAs Try.prog Try.f13 (bv (decide (PathG n es p)))) := by
  refine ⟨_, rfl, ?_⟩
  generalize hQ : endsAs Try.prog Try.f13 (bv (decide (PathG n es p))) = Q
  simp only [argsSt]
  by_cases hok : RightG n es ∧ 0 < p.length ∧ p.Nodup
  case neg =>
    have hans : decide (PathG n es p) = false := decide_eq_false fun h => hok ⟨h.1, h.2.1, h.2.2.1⟩
    rw [hans] at hQ
    refine go ?_
    by_cases hR : RightG n es
    case neg =>
      refine go ?_
      show Q .ret _; refine fin_ret hQ rfl ?_
      rfl
    by_cases h0 : 0 < p.length
    · have hn : ¬ p.Nodup := fun h => hok ⟨hR, h0, h⟩
      have hne : ¬ p = [] := fun h => by rw [h] at h0; exact absurd h0 (by decide)
      refine go ?_
      show Q .ret _; refine fin_ret hQ rfl ?_
      rfl
    · have hne : p = [] := List.eq_nil_of_length_eq_zero (by omega)
      refine go ?_
      show Q .ret _; refine fin_ret hQ rfl ?_
      rfl
  obtain ⟨hR, h0, hn⟩ := hok
  have hne : ¬ p = [] := fun h => by rw [h] at h0; exact absurd h0 (by decide)
  have hlen : es.length ≤ 4000 := hR.1.2.2
  refine go ?_
  apply rp_loop (fun k σ => ∃ i : Nat, i ≤ p.length ∧ k = p.length - i ∧ σ = [(1, ints p), (2, gbx n es), (5, iv i)] ∧ ∀ j, j < i → okP n es p j) p.length
  · exact ⟨0, by omega, by omega, rfl, by omega⟩
  rintro k σ ⟨i, hi, rfl, rfl, hno⟩
  by_cases hil : i < p.length
  case neg =>
    have hans : decide (PathG n es p) = true := decide_eq_true ⟨hR, h0, hn, fun j hj => hno j (by omega)⟩
    rw [hans] at hQ
    refine go ?_
    show Q .ret _; refine fin_ret hQ rfl ?_
    rfl
  refine go ?_
  by_cases hit : okP n es p i
  case neg =>
    have hans : decide (PathG n es p) = false := decide_eq_false fun h => hit (h.2.2.2 i hil)
    rw [hans] at hQ
    by_cases h1 : nth p i < 0
    · refine go ?_
      show Q .ret _; refine fin_ret hQ rfl ?_
      rfl
    by_cases h2 : n ≤ nth p i
    · refine go ?_
      show Q .ret _; refine fin_ret hQ rfl ?_
      rfl
    have h3 : 0 < i := by
      apply Classical.byContradiction
      intro h3
      exact hit ⟨by omega, by omega, fun h => absurd h h3⟩
    have h4 : ¬ HasG n es (nth p (i - 1)) (nth p i) := fun h => hit ⟨by omega, by omega, fun _ => h⟩
    obtain ⟨u, rfl⟩ : ∃ u, i = u + 1 := ⟨i - 1, by omega⟩
    rw [Nat.add_sub_cancel] at h4
    refine go ?_
    show Q .ret _; refine fin_ret hQ rfl ?_
    rfl
  have hno' : ∀ j, j < i + 1 → okP n es p j := by
    intro j hj
    rcases Nat.lt_succ_iff_lt_or_eq.1 hj with h | rfl
    · exact hno j h
    · exact hit
  obtain ⟨h1, h2, h3⟩ := hit
  by_cases h4 : 0 < i
  · have h5 := h3 h4
    obtain ⟨u, rfl⟩ : ∃ u, i = u + 1 := ⟨i - 1, by omega⟩
    rw [Nat.add_sub_cancel] at h5
    refine go ?_
    exact nxt (p.length - (u + 1 + 1)) (by omega) ⟨u + 1 + 1, by omega, by omega, rfl, hno'⟩
  · refine go ?_
    exact nxt (p.length - (i + 1)) (by omega) ⟨i + 1, by omega, by omega, rfl, hno'⟩
def spec13 : Spec := spec2 asGr asInts fun g p => when (p.length ≤ 17592186043904) (bv (decide (PathG g.1 g.2 p)))
theorem ok13 : SpecOk 13 spec13 := by
  intro us r h
  obtain ⟨x, y, g, p, rfl, hg, hp, h⟩ := spec2_eq h
  obtain ⟨hl, rfl⟩ := when_eq h
  rw [asGr_eq hg, asInts_eq hp]
  exact goodBy E13_ok Try.func13 rfl (Nat.le_of_ble_eq_true rfl) (by decide) (w13 g.1 g.2 p hl)
@[simp] theorem s13 (n : Int) (es : List (Int × Int)) (p : List Int) (h : p.length ≤ 17592186043904) : spec13 [gr n es, ints p] = some (bv (decide (PathG n es p))) := by
  unfold spec13; rw [spec2_v (asGr_gr n es) (asInts_ints p)]; exact when_pos _ h
@[simp] theorem call13 {E : Env} {σ : St Unit} {t : Nat} {l : List Operand} : effCall Try.prog E ΩU σ t 13 l = callO E 13 t (argsOf Try.prog ΩU σ [24, 25] l) := eff_call Try.func13 Try.params13
end Go.Proofs.Ytngglgkemonibaa.L
