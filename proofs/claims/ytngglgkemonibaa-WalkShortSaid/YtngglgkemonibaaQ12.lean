/- T51: cmp.Compare, cmp.Or at int; graph.compare. T32: graph.Right. -/
import Derived.Test.YtngglgkemonibaaQ11
set_option linter.unusedVariables false
set_option linter.unusedSimpArgs false
set_option linter.unnecessarySimpa false
namespace Go.Proofs.Ytngglgkemonibaa.L
open Go Go.RowKit
set_option maxRecDepth 100000
set_option maxHeartbeats 4000000
theorem w80 (x : Int) : ∃ c, Try.f80.body = some c ∧ RP (regOf Try.prog env0 6 u80) c (argsSt 0 [iv x]) (endsAs Try.prog Try.f80 (bv false)) := by
  refine ⟨_, rfl, ?_⟩
  generalize hQ : endsAs Try.prog Try.f80 (bv false) = Q
  simp only [argsSt]
  refine go ?_
  show Q .ret _; refine fin_ret hQ rfl ?_
  rfl
def spec80 : Spec := spec1 asInt fun _ => some (bv false)
theorem ok80 : SpecOk 80 spec80 := by
  intro us r h
  obtain ⟨x, v, rfl, hv, h⟩ := spec1_eq h
  obtain rfl := Option.some.inj h
  rw [asInt_eq hv]
  exact goodBy2 env0_ok Try.func80 rfl (Nat.le_of_ble_eq_true rfl) (by decide) (w80 v)
@[simp] theorem s80 (v : Int) : spec80 [iv v] = some (bv false) := by simp [spec80]
@[simp] theorem call80 {E : Env} {σ : St Unit} {t : Nat} {l : List Operand} : effCall Try.prog E ΩU σ t 80 l = callO E 80 t (argsOf Try.prog ΩU σ [3] l) := eff_call Try.func80 Try.params80
def cmp3 (a b : Int) : Int := if a < b then -1 else if b < a then 1 else 0
abbrev E67 : Env := ext env0 80 spec80
theorem w67 (a b : Int) : ∃ c, Try.f67.body = some c ∧ RP (regOf Try.prog E67 20 u67) c (argsSt 0 [iv a, iv b]) (endsAs Try.prog Try.f67 (iv (cmp3 a b))) := by
  refine ⟨_, rfl, ?_⟩
  generalize hQ : endsAs Try.prog Try.f67 (iv (cmp3 a b)) = Q
  simp only [argsSt]
  unfold cmp3 at hQ
  by_cases h1 : a < b
  · rw [if_pos h1] at hQ
    refine go ?_
    show Q .ret _; refine fin_ret hQ rfl ?_
    rfl
  rw [if_neg h1] at hQ
  by_cases h2 : b < a
  · rw [if_pos h2] at hQ
    refine go ?_
    show Q .ret _; refine fin_ret hQ rfl ?_
    rfl
  rw [if_neg h2] at hQ
  refine go ?_
  show Q .ret _; refine fin_ret hQ rfl ?_
  rfl
def spec67 : Spec := spec2 asInt asInt fun a b => some (iv (cmp3 a b))
theorem ok67 : SpecOk 67 spec67 := by
  intro us r h
  obtain ⟨x, y, a, b, rfl, ha, hb, h⟩ := spec2_eq h
  obtain rfl := Option.some.inj h
  rw [asInt_eq ha, asInt_eq hb]
  exact goodBy2 (ext_ok env0_ok ok80) Try.func67 rfl (Nat.le_of_ble_eq_true rfl) (by decide) (w67 a b)
@[simp] theorem s67 (a b : Int) : spec67 [iv a, iv b] = some (iv (cmp3 a b)) := by unfold spec67; rw [spec2_v (asInt_iv a) (asInt_iv b)]
@[simp] theorem call67 {E : Env} {σ : St Unit} {t : Nat} {l : List Operand} : effCall Try.prog E ΩU σ t 67 l = callO E 67 t (argsOf Try.prog ΩU σ [3, 3] l) := eff_call Try.func67 Try.params67
def orL : List Int → Int
  | [] => 0
  | x :: l => if x ≠ 0 then x else orL l
theorem w66 (l : List Int) (hl : l.length ≤ 17592186043904) : ∃ c, Try.f66.body = some c ∧ RP (regOf Try.prog env0 18 u66) c (argsSt 0 [ints l]) (endsAs Try.prog Try.f66 (iv (orL l))) := by
  refine ⟨_, rfl, ?_⟩
  generalize hQ : endsAs Try.prog Try.f66 (iv (orL l)) = Q
  simp only [argsSt]
  refine go ?_
  apply rp_loop (fun k σ => ∃ i : Nat, i ≤ l.length ∧ k = l.length - i ∧ orL l = orL (l.drop i) ∧ σ = [(3, iv 0), (6, ints l), (7, iv l.length), (8, iv i)]) l.length
  · exact ⟨0, by omega, by omega, rfl, rfl⟩
  rintro k σ ⟨i, hi, rfl, hor, rfl⟩
  by_cases hil : i < l.length
  case neg =>
    rw [List.drop_of_length_le (by omega)] at hor
    rw [hor] at hQ
    refine go ?_
    show Q .ret _; refine fin_ret hQ rfl ?_
    rfl
  rw [List.drop_eq_getElem_cons hil, ← nth_eq hil] at hor
  by_cases h0 : nth l i = 0
  · rw [orL, if_neg (by simpa using h0)] at hor
    refine go ?_
    exact nxt (l.length - (i + 1)) (by omega) ⟨i + 1, by omega, by omega, hor, rfl⟩
  · rw [orL, if_pos h0] at hor
    rw [hor] at hQ
    refine go ?_
    show Q .ret _; refine fin_ret hQ rfl ?_
    rfl
def spec66 : Spec := spec1 asInts fun l => when (l.length ≤ 17592186043904) (iv (orL l))
theorem ok66 : SpecOk 66 spec66 := by
  intro us r h
  obtain ⟨x, l, rfl, hl, h⟩ := spec1_eq h
  obtain ⟨hlen, rfl⟩ := when_eq h
  rw [asInts_eq hl]
  exact goodBy2 env0_ok Try.func66 rfl (Nat.le_of_ble_eq_true rfl) (by decide) (w66 l hlen)
@[simp] theorem s66 (l : List Int) (h : l.length ≤ 17592186043904) : spec66 [ints l] = some (iv (orL l)) := by
  unfold spec66; rw [spec1_v _ _ _ _ (asInts_ints l)]; exact when_pos _ h
@[simp] theorem call66 {E : Env} {σ : St Unit} {t : Nat} {l : List Operand} : effCall Try.prog E ΩU σ t 66 l = callO E 66 t (argsOf Try.prog ΩU σ [25] l) := eff_call Try.func66 Try.params66
def cmpI (a b c d : Int) : Int := orL [cmp3 a c, cmp3 b d]
abbrev ed (e : Int × Int) : SV Unit := ⟨.agg, [.c (.sc (.int .i64 e.1)), .c (.sc (.int .i64 e.2))]⟩
theorem cmpI_lt (e f : Int × Int) : cmpI e.1 e.2 f.1 f.2 < 0 ↔ ltE e f := by
  obtain ⟨a, b⟩ := e
  obtain ⟨c, d⟩ := f
  simp only [cmpI, orL, cmp3, ltE]
  by_cases h1 : a < c <;> by_cases h2 : c < a <;> by_cases h3 : b < d <;> by_cases h4 : d < b <;> simp [h1, h2, h3, h4] <;> omega
abbrev E51 : Env := ext (ext env0 67 spec67) 66 spec66
@[simp] theorem s66_2 (a b : Int) : spec66 [⟨.one, [.c (.sl false 1 () [.sc (.int .i64 a), .sc (.int .i64 b)])]⟩] = some (iv (orL [a, b])) := s66 [a, b] (by simp)
theorem w51 (e f : Int × Int) : ∃ c, Try.f51.body = some c ∧ RP (regOf Try.prog E51 17 u51) c (argsSt 0 [ed e, ed f]) (endsAs Try.prog Try.f51 (iv (cmpI e.1 e.2 f.1 f.2))) := by
  refine ⟨_, rfl, ?_⟩
  generalize hQ : endsAs Try.prog Try.f51 (iv (cmpI e.1 e.2 f.1 f.2)) = Q
  simp only [argsSt]
  refine go ?_
  show Q .ret _; refine fin_ret hQ rfl ?_
  rfl
def asEd : SV Unit → Option (Int × Int)
  | ⟨.agg, [.c (.sc (.int .i64 a)), .c (.sc (.int .i64 b))]⟩ => some (a, b)
  | _ => none
theorem asEd_eq {v : SV Unit} {e : Int × Int} (h : asEd v = some e) : v = ed e := by
  unfold asEd at h
  split at h
  · simp only [Option.some.injEq] at h; subst h; rfl
  · cases h
def spec51 : Spec := spec2 asEd asEd fun e f => some (iv (cmpI e.1 e.2 f.1 f.2))
theorem ok51 : SpecOk 51 spec51 := by
  intro us r h
  obtain ⟨x, y, e, f, rfl, he, hf, h⟩ := spec2_eq h
  obtain rfl := Option.some.inj h
  rw [asEd_eq he, asEd_eq hf]
  exact goodBy2 (ext_ok (ext_ok env0_ok ok67) ok66) Try.func51 rfl (Nat.le_of_ble_eq_true rfl) (by decide) (w51 e f)
@[simp] theorem s51 (a b c d : Int) : spec51 [⟨.agg, [.c (.sc (.int .i64 a)), .c (.sc (.int .i64 b))]⟩, ⟨.agg, [.c (.sc (.int .i64 c)), .c (.sc (.int .i64 d))]⟩] = some (iv (cmpI a b c d)) := rfl
@[simp] theorem call51 {E : Env} {σ : St Unit} {t : Nat} {l : List Operand} : effCall Try.prog E ΩU σ t 51 l = callO E 51 t (argsOf Try.prog ΩU σ [46, 46] l) := eff_call Try.func51 Try.params51
end Go.Proofs.Ytngglgkemonibaa.L
namespace Go.Proofs.Ytngglgkemonibaa.L
open Go Go.RowKit
set_option maxRecDepth 100000
set_option maxHeartbeats 4000000
abbrev E32 : Env := ext env0 51 spec51
theorem w32 (n : Int) (es : List (Int × Int)) : ∃ c, Try.f32.body = some c ∧ RP (regOf Try.prog E32 60 u32) c (argsSt 0 [gr n es]) (endsAs Try.prog Try.f32 (bv (decide (RightG n es)))) := by
  refine ⟨_, rfl, ?_⟩
  generalize hQ : endsAs Try.prog Try.f32 (bv (decide (RightG n es))) = Q
  simp only [argsSt]
  refine go ?_
  by_cases hbad : n < 0 ∨ 1000 < n ∨ 4000 < es.length
  · have hans : decide (RightG n es) = false := decide_eq_false fun h => by have := h.1; omega
    rw [hans] at hQ
    rcases (by omega : n < 0 ∨ (¬ n < 0 ∧ 1000 < n) ∨ (¬ n < 0 ∧ ¬ 1000 < n ∧ 4000 < es.length)) with h | ⟨h, h'⟩ | ⟨h, h', h''⟩
    all_goals
      refine go ?_
      show Q .ret _; refine fin_ret hQ rfl ?_
      rfl
  have h1 : ¬ n < 0 := by omega
  have h2 : ¬ 1000 < n := by omega
  have h3 : ¬ 4000 < es.length := by omega
  clear hbad
  refine go ?_
  apply rp_loop (fun k σ => ∃ i : Nat, i ≤ es.length ∧ k = es.length - i ∧ σ = [(1, gbx n es), (20, ⟨.one, [.c (.sl false 2 () (EL es))]⟩), (21, iv es.length), (22, iv i)] ∧ ∀ x, x < i → okE n (ent es x) ∧ (0 < x → ltE (ent es (x - 1)) (ent es x))) es.length
  · exact ⟨0, by omega, by omega, rfl, by omega⟩
  rintro k σ ⟨i, hi, rfl, rfl, hno⟩
  by_cases hil : i < es.length
  case neg =>
    refine go ?_
    have : RightG n es := ⟨⟨by omega, by omega, by omega⟩, fun x hx => hno x (by omega)⟩
    show Q .ret _; refine fin_ret hQ rfl ?_
    rw [decide_eq_true this]; rfl
  refine go ?_
  by_cases hok : okE n (ent es i) ∧ (0 < i → ltE (ent es (i - 1)) (ent es i))
  case neg =>
    have hans : decide (RightG n es) = false := decide_eq_false fun h => hok (h.2 i hil)
    rw [hans] at hQ
    by_cases hok1 : okE n (ent es i)
    case neg =>
      unfold okE at hok1
      rcases (by omega : (ent es i).1 < 0 ∨ (¬ (ent es i).1 < 0 ∧ (ent es i).2 ≤ (ent es i).1) ∨ (¬ (ent es i).1 < 0 ∧ ¬ (ent es i).2 ≤ (ent es i).1 ∧ n ≤ (ent es i).2)) with h | ⟨h, h'⟩ | ⟨h, h', h''⟩
      all_goals
        refine go ?_
        show Q .ret _; refine fin_ret hQ rfl ?_
        rfl
    have h0 : 0 < i := by
      apply Classical.byContradiction
      intro h0
      exact hok ⟨hok1, fun h => absurd h h0⟩
    have hlt : ¬ ltE (ent es (i - 1)) (ent es i) := fun h => hok ⟨hok1, fun _ => h⟩
    unfold okE at hok1
    obtain ⟨u, rfl⟩ : ∃ u, i = u + 1 := ⟨i - 1, by omega⟩
    rw [Nat.add_sub_cancel] at hlt
    have hc : ¬ cmpI (ent es u).1 (ent es u).2 (ent es (u + 1)).1 (ent es (u + 1)).2 < 0 := fun h => hlt ((cmpI_lt _ _).1 h)
    clear hok
    refine go ?_
    show Q .ret _; refine fin_ret hQ rfl ?_
    rfl
  have hnext : ∀ x, x < i + 1 → okE n (ent es x) ∧ (0 < x → ltE (ent es (x - 1)) (ent es x)) := by
    intro x hx
    rcases Nat.lt_succ_iff_lt_or_eq.1 hx with h | rfl
    · exact hno x h
    · exact hok
  obtain ⟨hok1, hok2⟩ := hok
  unfold okE at hok1
  by_cases h0 : 0 < i
  · have hlt := hok2 h0
    obtain ⟨u, rfl⟩ : ∃ u, i = u + 1 := ⟨i - 1, by omega⟩
    rw [Nat.add_sub_cancel] at hlt
    have hc : cmpI (ent es u).1 (ent es u).2 (ent es (u + 1)).1 (ent es (u + 1)).2 < 0 := (cmpI_lt _ _).2 hlt
    clear hlt hok2
    refine go ?_
    exact nxt (es.length - (u + 1 + 1)) (by omega) ⟨u + 1 + 1, by omega, by omega, rfl, hnext⟩
  · clear hok2
    refine go ?_
    exact nxt (es.length - (i + 1)) (by omega) ⟨i + 1, by omega, by omega, rfl, hnext⟩
def spec32 : Spec := spec1 asGr fun g => some (bv (decide (RightG g.1 g.2)))
theorem ok32 : SpecOk 32 spec32 := by
  intro us r h
  obtain ⟨x, g, rfl, hg, h⟩ := spec1_eq h
  obtain rfl := Option.some.inj h
  rw [asGr_eq hg]
  exact goodBy2 (ext_ok env0_ok ok51) Try.func32 rfl (Nat.le_of_ble_eq_true rfl) (by decide) (w32 g.1 g.2)
@[simp] theorem s32 (n : Int) (es : List (Int × Int)) : spec32 [gr n es] = some (bv (decide (RightG n es))) := by simp [spec32]
@[simp] theorem call32 {E : Env} {σ : St Unit} {t : Nat} {l : List Operand} : effCall Try.prog E ΩU σ t 32 l = callO E 32 t (argsOf Try.prog ΩU σ [24] l) := eff_call Try.func32 Try.params32
end Go.Proofs.Ytngglgkemonibaa.L
