/- T29: carcanetref03.Any and Of. T18: carcanetref03.Of. -/
import Derived.Test.YtngglgkemonibaaQ49
set_option linter.unusedVariables false
set_option linter.unusedSimpArgs false
set_option linter.unnecessarySimpa false
namespace Go.Proofs.Ytngglgkemonibaa.L
open Go Go.RowKit
set_option maxRecDepth 100000
set_option maxHeartbeats 4000000
theorem and16 (a : Int) : ∃ m : Nat, m < 65536 ∧ andI a 65535 = (m : Int) := by
  have h : (BitVec.ofInt 64 a &&& BitVec.ofInt 64 65535).toNat < 65536 := by
    rw [BitVec.toNat_and]
    have : (BitVec.ofInt 64 65535).toNat = 65535 := by decide
    rw [this]
    exact Nat.lt_of_le_of_lt (Nat.and_le_right) (by decide)
  refine ⟨_, h, ?_⟩
  unfold andI
  rw [wrap_in _ (by omega)]
theorem and16_mod (a : Int) (n : Nat) (hn : 0 < n) : ∃ f : Nat, f < n ∧ (andI a 65535).tmod (n : Int) = (f : Int) := by
  obtain ⟨m, _, e⟩ := and16 a
  exact ⟨m % n, Nat.mod_lt _ hn, by rw [e]; rfl⟩
def anyE (n : Nat) (e : Int × Int) : Int × Int := ((andI e.1 65535).tmod n, (andI e.2 65535).tmod n)
def anyL (n : Nat) (l : List (Int × Int)) : List (Int × Int) := if n = 0 then [] else (l.take 300).map (anyE n)
attribute [simp] kdLen kdKd
/-- A graph of one's own, as a value. -/
abbrev gro (n : Int) (es : List (Int × Int)) : SV Unit := ⟨.agg, [.c (.sc (.int .i64 n)), .c (.sl true 2 () (EL es))]⟩
abbrev E29 : Env := ext env0 47 spec47
theorem w29 (n : Int) (l : List (Int × Int)) (most : Nat) (hm : most ≤ 900) (hl : l.length ≤ 17592186043904) (N : Nat) (hN : N ≤ most) (hNe : (andI n 65535).tmod ((most : Int) + 1) = N) : ∃ c, Try.f29.body = some c ∧ RP (regOf Try.prog E29 57 u29) c (argsSt 0 [iv n, ees l, iv most]) (endsAs Try.prog Try.f29 (gro N (normE N (anyL N l)))) := by
  refine ⟨_, rfl, ?_⟩
  generalize hQ : endsAs Try.prog Try.f29 (gro N (normE N (anyL N l))) = Q
  simp only [argsSt]
  repeat (first | (show RP _ (.seq (.region _ _ false) _) _ _; refine gs ?_) | (show RP _ (.seq (.region _ _ true) _) _ _; first | refine gD ?_ | refine gW ?_ | refine gm ?_) | (show RP _ (.cond _ _ _) _ _; first | refine gT ?_ | refine gF ?_) | apply gskip | apply rp_ret | apply rp_exit | apply rp_skip | apply rp_block | (show RP _ (.region _ _ false) _ _; refine ge ?_) | (show RP _ (.region _ _ true) _ _; first | refine gG ?_ | refine gV ?_ | refine gn ?_) | apply rp_seq)
  rw [hNe]
  refine RP.mono (Q := fun e σ => e = .exit 0 ∧ ∃ i : Nat, σ = [(0, iv N), (1, ees l), (6, ⟨.one, [.c (.bx true () [.sc (.int .i64 0), .sl true 2 () []])]⟩), (7, ⟨.one, [.c (.sl true 2 () (EL (anyL N l)))]⟩), (8, iv i), (27, bv false)]) ?_ ?_
  · apply rp_loop (fun k σ => ∃ i : Nat, i ≤ l.length ∧ i ≤ 300 ∧ (N = 0 → i = 0) ∧ k = l.length - i ∧ σ = [(0, iv N), (1, ees l), (6, ⟨.one, [.c (.bx true () [.sc (.int .i64 0), .sl true 2 () []])]⟩), (7, ⟨.one, [.c (.sl true 2 () (EL ((l.take i).map (anyE N))))]⟩), (8, iv i)]) l.length
    · exact ⟨0, by omega, by omega, fun _ => rfl, by omega, rfl⟩
    rintro k σ ⟨i, hi, hi3, hN0, rfl, rfl⟩
    have hal : ((l.take i).map (anyE N)).length = i := by rw [List.length_map, List.length_take]; omega
    by_cases hgo : i < l.length ∧ i < 300 ∧ 0 < N
    case neg =>
      have hans : anyL N l = (l.take i).map (anyE N) := by
        unfold anyL
        by_cases h0 : N = 0
        · rw [if_pos h0, hN0 h0]; simp
        · rw [if_neg h0]
          by_cases h3 : i = 300
          · rw [h3]
          · rw [List.take_of_length_le (by omega : l.length ≤ i), List.take_of_length_le (by omega : l.length ≤ 300)]
      rw [hans]
      generalize (l.take i).map (anyE N) = A at *
      rcases (by omega : ¬ i < l.length ∨ (i < l.length ∧ ¬ i < 300) ∨ (i < l.length ∧ i < 300 ∧ N = 0)) with h | ⟨h, h'⟩ | ⟨h, h', h''⟩
      all_goals
        repeat (first | (show RP _ (.seq (.region _ _ false) _) _ _; refine gs ?_) | (show RP _ (.seq (.region _ _ true) _) _ _; first | refine gD ?_ | refine gW ?_ | refine gm ?_) | (show RP _ (.cond _ _ _) _ _; first | refine gT ?_ | refine gF ?_) | apply gskip | apply rp_ret | apply rp_exit | apply rp_skip | apply rp_block | (show RP _ (.region _ _ false) _ _; refine ge ?_) | (show RP _ (.region _ _ true) _ _; first | refine gG ?_ | refine gV ?_ | refine gn ?_) | apply rp_seq)
        exact ⟨rfl, i, rfl⟩
    obtain ⟨g1, g2, g3⟩ := hgo
    have hst : (l.take (i + 1)).map (anyE N) = (l.take i).map (anyE N) ++ [((andI (ent l i).1 65535).tmod (N : Int), (andI (ent l i).2 65535).tmod (N : Int))] := by rw [ent_take g1]; simp [anyE]
    have hN1 : ¬ N = 0 := by omega
    generalize (l.take i).map (anyE N) = A at *
    repeat (first | (show RP _ (.seq (.region _ _ false) _) _ _; refine gs ?_) | (show RP _ (.seq (.region _ _ true) _) _ _; first | refine gD ?_ | refine gW ?_ | refine gm ?_) | (show RP _ (.cond _ _ _) _ _; first | refine gT ?_ | refine gF ?_) | apply gskip | apply rp_ret | apply rp_exit | apply rp_skip | apply rp_block | (show RP _ (.region _ _ false) _ _; refine ge ?_) | (show RP _ (.region _ _ true) _ _; first | refine gG ?_ | refine gV ?_ | refine gn ?_) | apply rp_seq)
    exact nxt (l.length - (i + 1)) (by omega) ⟨i + 1, by omega, by omega, fun h => by omega, by omega, by rw [hst]; simp⟩
  rintro e σ ⟨rfl, i, rfl⟩
  simp only [inBlock_exit, if_true, thenR_normal]
  have hlen : (anyL N l).length ≤ 300 := by
    unfold anyL; split
    · simp
    · rw [List.length_map, List.length_take]; omega
  have hrange : ∀ e ∈ anyL N l, (0 ≤ e.1 ∧ e.1 < N) ∧ 0 ≤ e.2 ∧ e.2 < N := by
    unfold anyL; split
    · intro e he; cases he
    · next h0 =>
      intro e he
      obtain ⟨e', _, rfl⟩ := List.mem_map.1 he
      obtain ⟨f, hf, e1⟩ := and16_mod e'.1 N (by omega)
      obtain ⟨g, hg, e2⟩ := and16_mod e'.2 N (by omega)
      unfold anyE
      rw [e1, e2]
      simp only
      omega
  generalize anyL N l = L at *
  repeat (first | (show RP _ (.seq (.region _ _ false) _) _ _; refine gs ?_) | (show RP _ (.seq (.region _ _ true) _) _ _; first | refine gD ?_ | refine gW ?_ | refine gm ?_) | (show RP _ (.cond _ _ _) _ _; first | refine gT ?_ | refine gF ?_) | apply gskip | apply rp_ret | apply rp_exit | apply rp_skip | apply rp_block | (show RP _ (.region _ _ false) _ _; refine ge ?_) | (show RP _ (.region _ _ true) _ _; first | refine gG ?_ | refine gV ?_ | refine gn ?_) | apply rp_seq)
  show Q .ret _; refine fin_ret hQ rfl ?_
  rfl
theorem anyL_ok (N : Nat) (l : List (Int × Int)) : (anyL N l).length ≤ 300 ∧ ∀ e ∈ anyL N l, (0 ≤ e.1 ∧ e.1 < N) ∧ 0 ≤ e.2 ∧ e.2 < N := by
  unfold anyL
  split
  · exact ⟨by simp, fun e he => by cases he⟩
  · next h0 =>
    refine ⟨by rw [List.length_map, List.length_take]; omega, fun e he => ?_⟩
    obtain ⟨e', _, rfl⟩ := List.mem_map.1 he
    obtain ⟨f, hf, e1⟩ := and16_mod e'.1 N (by omega)
    obtain ⟨g, hg, e2⟩ := and16_mod e'.2 N (by omega)
    unfold anyE
    rw [e1, e2]
    simp only
    omega
/-- How many vertices; which edges. -/
def anyN (n : Int) (most : Nat) : Nat := ((andI n 65535).tmod ((most : Int) + 1)).toNat
def anyEs (n : Int) (most : Nat) (l : List (Int × Int)) : List (Int × Int) := normE (anyN n most) (anyL (anyN n most) l)
theorem anyN_ok (n : Int) (most : Nat) : anyN n most ≤ most ∧ (andI n 65535).tmod ((most : Int) + 1) = anyN n most := by
  obtain ⟨f, hf, e⟩ := and16_mod n (most + 1) (by omega)
  rw [show ((most + 1 : Nat) : Int) = (most : Int) + 1 from rfl] at e
  unfold anyN
  rw [e]
  exact ⟨by rw [Int.toNat_natCast]; omega, by rw [Int.toNat_natCast]⟩
theorem any_right (n : Int) {most : Nat} (hm : most ≤ 900) (l : List (Int × Int)) : RightG (anyN n most) (anyEs n most l) :=
  normE_right (by have := (anyN_ok n most).1; omega) (anyL_ok _ l).1 (anyL_ok _ l).2
def spec29 : Spec := spec3 asInt asEs asInt fun n l m => when (l.length ≤ 17592186043904 ∧ 0 ≤ m ∧ m ≤ 900) (gro (anyN n m.toNat) (anyEs n m.toNat l))
theorem ok29 : SpecOk 29 spec29 := by
  intro us r h
  obtain ⟨x, y, z, n, l, m, rfl, hn, hl, hm, h⟩ := spec3_eq h
  obtain ⟨hb, rfl⟩ := when_eq h
  rw [asInt_eq hn, asEs_eq hl, asInt_eq hm]
  obtain ⟨M, rfl⟩ : ∃ M : Nat, m = M := ⟨m.toNat, by omega⟩
  exact goodBy2 (ext_ok env0_ok ok47) Try.func29 rfl (Nat.le_of_ble_eq_true rfl) (by decide) (w29 n l M (by omega) hb.1 (anyN n M) (anyN_ok n M).1 (anyN_ok n M).2)
theorem s29 (n : Int) (l : List (Int × Int)) (m : Nat) (hl : l.length ≤ 17592186043904) (hm : m ≤ 900) : spec29 [iv n, ees l, iv m] = some (gro (anyN n m) (anyEs n m l)) := by
  unfold spec29; rw [spec3_v (asInt_iv n) (asEs_ees l) (asInt_iv m)]; exact when_pos _ ⟨hl, by omega, by omega⟩
@[simp] theorem call29 {E : Env} {σ : St Unit} {t : Nat} {l : List Operand} : effCall Try.prog E ΩU σ t 29 l = callO E 29 t (argsOf Try.prog ΩU σ [3, 22, 3] l) := eff_call Try.func29 Try.params29
end Go.Proofs.Ytngglgkemonibaa.L
namespace Go.Proofs.Ytngglgkemonibaa.L
open Go Go.RowKit
set_option maxRecDepth 100000
set_option maxHeartbeats 4000000
@[simp] theorem und28 : Try.prog.underlying 28 = some (.struct #[⟨"N", 3, 0, false, "", "", 0⟩, ⟨"E", 22, 1, false, "", "", 8⟩]) := by kernel_rfl
@[simp] theorem cells28 : Try.prog.cellsOf 28 = 2 := by kernel_rfl
@[simp] theorem s29v (n : Int) (l : List (Int × Int)) (m : Nat) (hl : l.length ≤ 17592186043904) (hm : m ≤ 900) : spec29 [iv n, ees l, iv m] = some (gro (anyN n m) (anyEs n m l)) := s29 n l m hl hm
abbrev E18 : Env := ext env0 29 spec29
theorem w18 (n : Int) (l : List (Int × Int)) (most : Nat) (hm : most ≤ 900) (hl : l.length ≤ 17592186043904) : ∃ c, Try.f18.body = some c ∧ RP (regOf Try.prog E18 11 u18) c (argsSt 0 [gr n l, iv most]) (endsAs Try.prog Try.f18 (gro (anyN n most) (anyEs n most l))) := by
  refine ⟨_, rfl, ?_⟩
  generalize hQ : endsAs Try.prog Try.f18 (gro (anyN n most) (anyEs n most l)) = Q
  simp only [argsSt]
  repeat (first | (show RP _ (.seq (.region _ _ false) _) _ _; refine gs ?_) | (show RP _ (.seq (.region _ _ true) _) _ _; first | refine gD ?_ | refine gW ?_ | refine gm ?_) | (show RP _ (.cond _ _ _) _ _; first | refine gT ?_ | refine gF ?_) | apply gskip | apply rp_ret | apply rp_exit | apply rp_skip | apply rp_block | (show RP _ (.region _ _ false) _ _; refine ge ?_) | (show RP _ (.region _ _ true) _ _; first | refine gG ?_ | refine gV ?_ | refine gn ?_) | apply rp_seq)
  show Q .ret _; refine fin_ret hQ rfl ?_
  rfl
def spec18 : Spec := spec2 asGr asInt fun g m => when (g.2.length ≤ 17592186043904 ∧ 0 ≤ m ∧ m ≤ 900) (gro (anyN g.1 m.toNat) (anyEs g.1 m.toNat g.2))
theorem ok18 : SpecOk 18 spec18 := by
  intro us r h
  obtain ⟨x, z, g, m, rfl, hg, hm, h⟩ := spec2_eq h
  obtain ⟨hb, rfl⟩ := when_eq h
  rw [asGr_eq hg, asInt_eq hm]
  obtain ⟨M, rfl⟩ : ∃ M : Nat, m = M := ⟨m.toNat, by omega⟩
  exact goodBy2 (ext_ok env0_ok ok29) Try.func18 rfl (Nat.le_of_ble_eq_true rfl) (by decide) (w18 g.1 g.2 M (by omega) hb.1)
theorem s18 (n : Int) (l : List (Int × Int)) (m : Nat) (hl : l.length ≤ 17592186043904) (hm : m ≤ 900) : spec18 [gr n l, iv m] = some (gro (anyN n m) (anyEs n m l)) := by
  unfold spec18; rw [spec2_v (asGr_gr n l) (asInt_iv m)]; exact when_pos _ ⟨hl, by omega, by omega⟩
@[simp] theorem call18 {E : Env} {σ : St Unit} {t : Nat} {l : List Operand} : effCall Try.prog E ΩU σ t 18 l = callO E 18 t (argsOf Try.prog ΩU σ [28, 3] l) := eff_call Try.func18 Try.params18
end Go.Proofs.Ytngglgkemonibaa.L
