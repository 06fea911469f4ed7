/- T12: walk.IsPath. -/
import Derived.Test.YtngglgkemonibaaQ12
import Derived.Test.YtngglgkemonibaaQ24
set_option linter.unusedVariables false
set_option linter.unusedSimpArgs false
set_option linter.unnecessarySimpa false
namespace Go.Proofs.Ytngglgkemonibaa.L
open Go Go.RowKit
set_option maxRecDepth 100000
set_option maxHeartbeats 4000000
/-- graph.Has answers as the reference does. -/
def spec31 : Spec := spec3 asGr asInt asInt fun g a b => when (g.2.length ≤ 17592186043904) (bv (decide (HasG g.1 g.2 a b)))
@[simp] theorem s31 (n : Int) (es : List (Int × Int)) (a b : Int) (h : es.length ≤ 17592186043904) : spec31 [gr n es, iv a, iv b] = some (bv (decide (HasG n es a b))) := by
  unfold spec31; rw [spec3_v (asGr_gr n es) (asInt_iv a) (asInt_iv b)]; exact when_pos _ h
@[simp] theorem call31 {E : Env} {σ : St Unit} {t : Nat} {l : List Operand} : effCall Try.prog E ΩU σ t 31 l = callO E 31 t (argsOf Try.prog ΩU σ [24, 3, 3] l) := eff_call Try.func31 Try.params31
/-- walk.unlike. -/
def spec33 : Spec := spec1 asInts fun l => when (l.length ≤ 17592186043904) (bv (decide l.Nodup))
@[simp] theorem s33 (a : List Int) (h : a.length ≤ 17592186043904) : spec33 [ints a] = some (bv (decide a.Nodup)) := by
  unfold spec33; rw [spec1_v _ _ _ _ (asInts_ints a)]; exact when_pos _ h
@[simp] theorem call33 {E : Env} {σ : St Unit} {t : Nat} {l : List Operand} : effCall Try.prog E ΩU σ t 33 l = callO E 33 t (argsOf Try.prog ΩU σ [25] l) := eff_call Try.func33 Try.params33
theorem RightG.mem {n : Int} {es : List (Int × Int)} (h : RightG n es) {a b : Int} (hm : (a, b) ∈ es) : 0 ≤ a ∧ b < n ∧ a < b := by
  obtain ⟨i, hi, h1, h2⟩ := mem_ent.1 hm
  have := (h.2 i hi).1
  rw [show es.getD i (0, 0) = ent es i from rfl] at this
  unfold okE at this
  omega
theorem HasG.range {n : Int} {es : List (Int × Int)} {a b : Int} (h : HasG n es a b) : (0 ≤ a ∧ a < n) ∧ 0 ≤ b ∧ b < n ∧ a ≠ b := by
  rcases h.2 with hm | hm
  · have := h.1.mem hm; omega
  · have := h.1.mem hm; omega
theorem path_iff {n : Int} {es : List (Int × Int)} {p : List Int} (hR : RightG n es) (h0 : 0 < p.length) (hn : p.Nodup) (h1 : 0 ≤ nth p 0 ∧ nth p 0 < n) (hs : ∀ i, i + 1 < p.length → HasG n es (nth p i) (nth p (i + 1))) : PathG n es p := by
  refine ⟨hR, h0, hn, fun i hi => ?_⟩
  cases i with
  | zero => exact ⟨h1.1, h1.2, fun h => absurd h (by omega)⟩
  | succ i => exact ⟨(hs i hi).range.2.1, (hs i hi).range.2.2.1, fun _ => hs i hi⟩
abbrev E12 : Env := ext (ext (ext env0 32 spec32) 33 spec33) 31 spec31
theorem w12 (n : Int) (es : List (Int × Int)) (p : List Int) (hp : p.length ≤ 17592186043904) : ∃ c, Try.f12.body = some c ∧ RP (regOf Try.prog E12 52 u12) c (argsSt 0 [gr n es, ints p]) (endsAs Try.prog Try.f12 (bv (decide (PathG n es p)))) := by
  refine ⟨_, rfl, ?_⟩
  generalize hQ : endsAs Try.prog Try.f12 (bv (decide (PathG n es p))) = Q
  simp only [argsSt]
  by_cases hok : RightG n es ∧ 0 < p.length ∧ 0 ≤ nth p 0 ∧ nth p 0 < n ∧ p.Nodup
  case neg =>
    have hans : decide (PathG n es p) = false := decide_eq_false fun h => hok ⟨h.1, h.2.1, (h.2.2.2 0 h.2.1).1, (h.2.2.2 0 h.2.1).2.1, h.2.2.1⟩
    rw [hans] at hQ
    refine gs ?_
    by_cases hR : RightG n es
    case neg =>
      refine go ?_
      show Q .ret _; refine fin_ret hQ rfl ?_
      rfl
    by_cases h0 : 0 < p.length
    case neg =>
      have hne : p = [] := List.eq_nil_of_length_eq_zero (by omega)
      refine go ?_
      show Q .ret _; refine fin_ret hQ rfl ?_
      rfl
    have hne : ¬ p = [] := fun h => by rw [h] at h0; exact absurd h0 (by decide)
    by_cases h1 : nth p 0 < 0
    · refine go ?_
      show Q .ret _; refine fin_ret hQ rfl ?_
      rfl
    by_cases h2 : n ≤ nth p 0
    · refine go ?_
      show Q .ret _; refine fin_ret hQ rfl ?_
      rfl
    have h3 : ¬ p.Nodup := fun h => hok ⟨hR, h0, by omega, by omega, h⟩
    refine go ?_
    show Q .ret _; refine fin_ret hQ rfl ?_
    rfl
  obtain ⟨hR, h0, h1, h2, hn⟩ := hok
  have hne : ¬ p = [] := fun h => by rw [h] at h0; exact absurd h0 (by decide)
  have hlen : es.length ≤ 4000 := hR.1.2.2
  refine go ?_
  apply rp_loop (fun k σ => ∃ i : Nat, i + 1 ≤ p.length ∧ k = p.length - i ∧ σ = [(1, ints p), (2, gbx n es), (35, iv ((p.length : Int) - 1)), (36, iv i)] ∧ ∀ j, j < i → HasG n es (nth p j) (nth p (j + 1))) p.length
  · exact ⟨0, by omega, by omega, rfl, by omega⟩
  rintro k σ ⟨i, hi, rfl, rfl, hno⟩
  by_cases hil : i + 1 < p.length
  case neg =>
    have hans : decide (PathG n es p) = true := decide_eq_true (path_iff hR h0 hn ⟨h1, h2⟩ fun j hj => hno j (by omega))
    rw [hans] at hQ
    refine go ?_
    show Q .ret _; refine fin_ret hQ rfl ?_
    rfl
  refine go ?_
  by_cases hH : HasG n es (nth p i) (nth p (i + 1))
  · refine go ?_
    refine nxt (p.length - (i + 1)) (by omega) ⟨i + 1, by omega, by omega, rfl, fun j hj => ?_⟩
    rcases Nat.lt_succ_iff_lt_or_eq.1 hj with h | rfl
    · exact hno j h
    · exact hH
  · have hans : decide (PathG n es p) = false := decide_eq_false fun h => hH ((h.2.2.2 (i + 1) hil).2.2 (by omega))
    rw [hans] at hQ
    refine go ?_
    show Q .ret _; refine fin_ret hQ rfl ?_
    rfl
def spec12 : Spec := spec2 asGr asInts fun g p => when (p.length ≤ 17592186043904) (bv (decide (PathG g.1 g.2 p)))
theorem ok12 (h31 : SpecOk 31 spec31) (h33 : SpecOk 33 spec33) : SpecOk 12 spec12 := by
  intro us r h
  obtain ⟨x, y, g, p, rfl, hg, hp, h⟩ := spec2_eq h
  obtain ⟨hl, rfl⟩ := when_eq h
  rw [asGr_eq hg, asInts_eq hp]
  exact goodBy2 (ext_ok (ext_ok (ext_ok env0_ok ok32) h33) h31) Try.func12 rfl (Nat.le_of_ble_eq_true rfl) (by decide) (w12 g.1 g.2 p hl)
@[simp] theorem s12 (n : Int) (es : List (Int × Int)) (p : List Int) (h : p.length ≤ 17592186043904) : spec12 [gr n es, ints p] = some (bv (decide (PathG n es p))) := by
  unfold spec12; rw [spec2_v (asGr_gr n es) (asInts_ints p)]; exact when_pos _ h
@[simp] theorem call12 {E : Env} {σ : St Unit} {t : Nat} {l : List Operand} : effCall Try.prog E ΩU σ t 12 l = callO E 12 t (argsOf Try.prog ΩU σ [24, 25] l) := eff_call Try.func12 Try.params12
end Go.Proofs.Ytngglgkemonibaa.L
