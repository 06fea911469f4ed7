/- T27: carcanetref03.Has. -/
import Derived.Test.YtngglgkemonibaaQ14
set_option linter.unusedVariables false
set_option linter.unusedSimpArgs false
set_option linter.unnecessarySimpa false
namespace Go.Proofs.Ytngglgkemonibaa.L
open Go Go.RowKit
set_option maxRecDepth 100000
set_option maxHeartbeats 4000000
def HasG (n : Int) (es : List (Int × Int)) (a b : Int) : Prop := RightG n es ∧ ((a, b) ∈ es ∨ (b, a) ∈ es)
instance (n : Int) (es : List (Int × Int)) (a b : Int) : Decidable (HasG n es a b) := by unfold HasG; infer_instance
abbrev E27 : Env := ext env0 34 spec34
theorem E27_ok : EnvOk Try.prog E27 := ext_ok env0_ok ok34
theorem w27 (n : Int) (es : List (Int × Int)) (a b : Int) : ∃ c, Try.f27.body = some c ∧ RP (regOf Try.prog E27 56 t27) c (argsSt 0 [gr n es, iv a, iv b]) (endsAs Try.prog Try.f27 (bv (decide (HasG n es a b)))) := by
  refine ⟨_, rfl, ?_⟩
  generalize hQ : endsAs Try.prog Try.f27 (bv (decide (HasG n es a b))) = Q
  simp only [argsSt]
  by_cases hR : RightG n es
  case neg =>
    have hans : decide (HasG n es a b) = false := decide_eq_false fun h => hR h.1
    rw [hans] at hQ
    repeat (first | (show RP _ (.seq (.region _ _ false) _) _ _; refine gs ?_) | (show RP _ (.seq (.region _ _ true) _) _ _; first | refine gD ?_ | refine gW ?_ | refine gm ?_) | (show RP _ (.cond _ _ _) _ _; first | refine gT ?_ | refine gF ?_) | apply gskip | apply rp_ret | apply rp_exit | apply rp_skip | apply rp_block | (show RP _ (.region _ _ false) _ _; refine ge ?_) | (show RP _ (.region _ _ true) _ _; first | refine gG ?_ | refine gV ?_ | refine gn ?_) | apply rp_seq)
    show Q .ret _; refine fin_ret hQ rfl ?_
    rfl
  have hlen : es.length ≤ 4000 := hR.1.2.2
  repeat (first | (show RP _ (.seq (.region _ _ false) _) _ _; refine gs ?_) | (show RP _ (.seq (.region _ _ true) _) _ _; first | refine gD ?_ | refine gW ?_ | refine gm ?_) | (show RP _ (.cond _ _ _) _ _; first | refine gT ?_ | refine gF ?_) | apply gskip | apply rp_ret | apply rp_exit | apply rp_skip | apply rp_block | (show RP _ (.region _ _ false) _ _; refine ge ?_) | (show RP _ (.region _ _ true) _ _; first | refine gG ?_ | refine gV ?_ | refine gn ?_) | apply rp_seq)
  apply rp_loop (fun k σ => ∃ i : Nat, i ≤ es.length ∧ k = es.length - i ∧ σ = [(1, iv a), (2, iv b), (3, gbx n es), (7, iv i)] ∧
    ∀ j, j < i → ¬ (((ent es j).1 = a ∧ (ent es j).2 = b) ∨ ((ent es j).1 = b ∧ (ent es j).2 = a))) es.length
  · exact ⟨0, by omega, by omega, rfl, by omega⟩
  rintro k σ ⟨i, hi, rfl, rfl, hno⟩
  by_cases hil : i < es.length
  case neg =>
    have hans : decide (HasG n es a b) = false := decide_eq_false fun h => by
      rcases h.2 with h | h
      · obtain ⟨j, hj, h1, h2⟩ := mem_ent.1 h; exact hno j (by omega) (.inl ⟨h1, h2⟩)
      · obtain ⟨j, hj, h1, h2⟩ := mem_ent.1 h; exact hno j (by omega) (.inr ⟨h1, h2⟩)
    rw [hans] at hQ
    repeat (first | (show RP _ (.seq (.region _ _ false) _) _ _; refine gs ?_) | (show RP _ (.seq (.region _ _ true) _) _ _; first | refine gD ?_ | refine gW ?_ | refine gm ?_) | (show RP _ (.cond _ _ _) _ _; first | refine gT ?_ | refine gF ?_) | apply gskip | apply rp_ret | apply rp_exit | apply rp_skip | apply rp_block | (show RP _ (.region _ _ false) _ _; refine ge ?_) | (show RP _ (.region _ _ true) _ _; first | refine gG ?_ | refine gV ?_ | refine gn ?_) | apply rp_seq)
    show Q .ret _; refine fin_ret hQ rfl ?_
    rfl
  repeat (first | (show RP _ (.seq (.region _ _ false) _) _ _; refine gs ?_) | (show RP _ (.seq (.region _ _ true) _) _ _; first | refine gD ?_ | refine gW ?_ | refine gm ?_) | (show RP _ (.cond _ _ _) _ _; first | refine gT ?_ | refine gF ?_) | apply gskip | apply rp_ret | apply rp_exit | apply rp_skip | apply rp_block | (show RP _ (.region _ _ false) _ _; refine ge ?_) | (show RP _ (.region _ _ true) _ _; first | refine gG ?_ | refine gV ?_ | refine gn ?_) | apply rp_seq)
  by_cases hit : ((ent es i).1 = a ∧ (ent es i).2 = b) ∨ ((ent es i).1 = b ∧ (ent es i).2 = a)
  · have hans : decide (HasG n es a b) = true := decide_eq_true ⟨hR, hit.imp (fun h => mem_ent.2 ⟨i, hil, h.1, h.2⟩) (fun h => mem_ent.2 ⟨i, hil, h.1, h.2⟩)⟩
    rw [hans] at hQ
    rcases (by omega : ((ent es i).1 = a ∧ (ent es i).2 = b) ∨ ((ent es i).1 = a ∧ ¬ (ent es i).2 = b ∧ (ent es i).1 = b ∧ (ent es i).2 = a) ∨ (¬ (ent es i).1 = a ∧ (ent es i).1 = b ∧ (ent es i).2 = a)) with ⟨h1, h2⟩ | ⟨h1, h2, h3, h4⟩ | ⟨h1, h2, h3⟩
    all_goals
      repeat (first | (show RP _ (.seq (.region _ _ false) _) _ _; refine gs ?_) | (show RP _ (.seq (.region _ _ true) _) _ _; first | refine gD ?_ | refine gW ?_ | refine gm ?_) | (show RP _ (.cond _ _ _) _ _; first | refine gT ?_ | refine gF ?_) | apply gskip | apply rp_ret | apply rp_exit | apply rp_skip | apply rp_block | (show RP _ (.region _ _ false) _ _; refine ge ?_) | (show RP _ (.region _ _ true) _ _; first | refine gG ?_ | refine gV ?_ | refine gn ?_) | apply rp_seq)
      show Q .ret _; refine fin_ret hQ rfl ?_
      rfl
  · have hno' : ∀ j, j < i + 1 → ¬ (((ent es j).1 = a ∧ (ent es j).2 = b) ∨ ((ent es j).1 = b ∧ (ent es j).2 = a)) := by
      intro j hj
      rcases Nat.lt_succ_iff_lt_or_eq.1 hj with h | rfl
      · exact hno j h
      · exact hit
    rcases (by omega : ((ent es i).1 = a ∧ ¬ (ent es i).2 = b ∧ ¬ (ent es i).1 = b) ∨ ((ent es i).1 = a ∧ ¬ (ent es i).2 = b ∧ (ent es i).1 = b ∧ ¬ (ent es i).2 = a) ∨ (¬ (ent es i).1 = a ∧ ¬ (ent es i).1 = b) ∨ (¬ (ent es i).1 = a ∧ (ent es i).1 = b ∧ ¬ (ent es i).2 = a)) with ⟨h1, h2, h3⟩ | ⟨h1, h2, h3, h4⟩ | ⟨h1, h2⟩ | ⟨h1, h2, h3⟩
    all_goals
      repeat (first | (show RP _ (.seq (.region _ _ false) _) _ _; refine gs ?_) | (show RP _ (.seq (.region _ _ true) _) _ _; first | refine gD ?_ | refine gW ?_ | refine gm ?_) | (show RP _ (.cond _ _ _) _ _; first | refine gT ?_ | refine gF ?_) | apply gskip | apply rp_ret | apply rp_exit | apply rp_skip | apply rp_block | (show RP _ (.region _ _ false) _ _; refine ge ?_) | (show RP _ (.region _ _ true) _ _; first | refine gG ?_ | refine gV ?_ | refine gn ?_) | apply rp_seq)
      exact nxt (es.length - (i + 1)) (by omega) ⟨i + 1, by omega, by omega, rfl, hno'⟩
def spec27 : Spec := spec3 asGr asInt asInt fun g a b => some (bv (decide (HasG g.1 g.2 a b)))
theorem ok27 : SpecOk 27 spec27 := by
  intro us r h
  obtain ⟨x, y, z, g, a, b, rfl, hg, ha, hb, h⟩ := spec3_eq h
  obtain rfl := Option.some.inj h
  rw [asGr_eq hg, asInt_eq ha, asInt_eq hb]
  exact goodBy E27_ok Try.func27 rfl (Nat.le_of_ble_eq_true rfl) (by decide) (w27 g.1 g.2 a b)
@[simp] theorem s27 (n : Int) (es : List (Int × Int)) (a b : Int) : spec27 [gr n es, iv a, iv b] = some (bv (decide (HasG n es a b))) := by
  unfold spec27; rw [spec3_v (asGr_gr n es) (asInt_iv a) (asInt_iv b)]
@[simp] theorem call27 {E : Env} {σ : St Unit} {t : Nat} {l : List Operand} : effCall Try.prog E ΩU σ t 27 l = callO E 27 t (argsOf Try.prog ΩU σ [24, 3, 3] l) := eff_call Try.func27 Try.params27
end Go.Proofs.Ytngglgkemonibaa.L
