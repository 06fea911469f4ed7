/- T6: the law WalkApart. -/
import Derived.Test.YtngglgkemonibaaQ47
import Derived.Test.YtngglgkemonibaaQ48
import Derived.Test.YtngglgkemonibaaQ49
set_option linter.unusedVariables false
set_option linter.unusedSimpArgs false
set_option linter.unnecessarySimpa false
namespace Go.Proofs.Ytngglgkemonibaa.L
open Go Go.RowKit Go.Proofs.Ytngglgkemonibaa.B
set_option maxRecDepth 100000
set_option maxHeartbeats 4000000
noncomputable abbrev E6 : Env := ext (ext (ext env0 11 spec11) 24 spec24) 25 spec25
theorem E6_ok : EnvOk Try.prog E6 := ext_ok (ext_ok (ext_ok env0_ok ok11) ok24) ok25
def cut20 (l : List (List Int)) (i : Nat) : List (List Int) := (l.take i).map fun r => r.take (min r.length 20)
theorem cut20_succ {l : List (List Int)} {i : Nat} (h : i < l.length) : cut20 l (i + 1) = cut20 l i ++ [(nthR l i).take (min (nthR l i).length 20)] := by
  unfold cut20; rw [nthR_take h, List.map_append]; rfl
theorem cut20_len {l : List (List Int)} {i : Nat} (h : i ≤ l.length) : (cut20 l i).length = i := by unfold cut20; rw [List.length_map, List.length_take]; omega
theorem cut20_row {l : List (List Int)} {i : Nat} : ∀ r ∈ cut20 l i, r.length ≤ 1000 := by
  intro r hr
  obtain ⟨r', _, rfl⟩ := List.mem_map.1 hr
  rw [List.length_take]; omega
theorem w6 (l : List (List Int)) (hl : l.length ≤ 5864062014805) (hr : ∀ i, i < l.length → (nthR l i).length ≤ 17592186043904) : ∃ c, Try.f6.body = some c ∧ RP (regOf Try.prog E6 41 v6) c (argsSt 0 [rows l]) (endsAs Try.prog Try.f6 (bv true)) := by
  refine ⟨_, rfl, ?_⟩
  generalize hQ : endsAs Try.prog Try.f6 (bv true) = Q
  simp only [argsSt]
  repeat (first | (show RP _ (.seq (.region _ _ false) _) _ _; refine gs ?_) | (show RP _ (.seq (.region _ _ true) _) _ _; first | refine gD ?_ | refine gW ?_ | refine gm ?_) | (show RP _ (.cond _ _ _) _ _; first | refine gT ?_ | refine gF ?_) | apply gskip | apply rp_ret | apply rp_exit | apply rp_skip | apply rp_block | (show RP _ (.region _ _ false) _ _; refine ge ?_) | (show RP _ (.region _ _ true) _ _; first | refine gG ?_ | refine gV ?_ | refine gn ?_) | apply rp_seq)
  refine RP.mono (Q := fun e σ => e = .exit 0 ∧ ∃ i : Nat, i ≤ l.length ∧ i ≤ 20 ∧ σ = [(0, rows l), (3, bv true), (4, orows (cut20 l i)), (5, iv i), (14, bv false)]) ?_ ?_
  · apply rp_loop (fun k σ => ∃ i : Nat, i ≤ l.length ∧ i ≤ 20 ∧ k = l.length - i ∧ σ = [(0, rows l), (3, bv true), (4, orows (cut20 l i)), (5, iv i)]) l.length
    · exact ⟨0, by omega, by omega, by omega, by simp [cut20, OL]⟩
    rintro k σ ⟨i, hi, hi2, rfl, rfl⟩
    by_cases hil : i < l.length
    case neg =>
      repeat (first | (show RP _ (.seq (.region _ _ false) _) _ _; refine gs ?_) | (show RP _ (.seq (.region _ _ true) _) _ _; first | refine gD ?_ | refine gW ?_ | refine gm ?_) | (show RP _ (.cond _ _ _) _ _; first | refine gT ?_ | refine gF ?_) | apply gskip | apply rp_ret | apply rp_exit | apply rp_skip | apply rp_block | (show RP _ (.region _ _ false) _ _; refine ge ?_) | (show RP _ (.region _ _ true) _ _; first | refine gG ?_ | refine gV ?_ | refine gn ?_) | apply rp_seq)
      exact ⟨rfl, i, hi, hi2, rfl⟩
    by_cases hi3 : i < 20
    case neg =>
      repeat (first | (show RP _ (.seq (.region _ _ false) _) _ _; refine gs ?_) | (show RP _ (.seq (.region _ _ true) _) _ _; first | refine gD ?_ | refine gW ?_ | refine gm ?_) | (show RP _ (.cond _ _ _) _ _; first | refine gT ?_ | refine gF ?_) | apply gskip | apply rp_ret | apply rp_exit | apply rp_skip | apply rp_block | (show RP _ (.region _ _ false) _ _; refine ge ?_) | (show RP _ (.region _ _ true) _ _; first | refine gG ?_ | refine gV ?_ | refine gn ?_) | apply rp_seq)
      exact ⟨rfl, i, hi, hi2, rfl⟩
    have hs := cut20_succ hil
    have hcl := cut20_len hi
    have hri := hr i hil
    generalize cut20 l i = A at *
    have htl : ((nthR l i).take (min (nthR l i).length 20)).length ≤ 20 := by rw [List.length_take]; omega
    repeat (first | (show RP _ (.seq (.region _ _ false) _) _ _; refine gs ?_) | (show RP _ (.seq (.region _ _ true) _) _ _; first | refine gD ?_ | refine gW ?_ | refine gm ?_) | (show RP _ (.cond _ _ _) _ _; first | refine gT ?_ | refine gF ?_) | apply gskip | apply rp_ret | apply rp_exit | apply rp_skip | apply rp_block | (show RP _ (.region _ _ false) _ _; refine ge ?_) | (show RP _ (.region _ _ true) _ _; first | refine gG ?_ | refine gV ?_ | refine gn ?_) | apply rp_seq)
    exact nxt (l.length - (i + 1)) (by omega) ⟨i + 1, by omega, by omega, by omega, by rw [hs]; simp⟩
  rintro e σ ⟨rfl, i, hi, hi2, rfl⟩
  simp only [inBlock_exit, if_true, thenR_normal]
  have hcl := cut20_len hi
  have hcr := cut20_row (l := l) (i := i)
  generalize cut20 l i = A at *
  have hall : A.length ≤ 1000 ∧ ∀ r ∈ A, r.length ≤ 1000 := ⟨by omega, hcr⟩
  repeat (first | (show RP _ (.seq (.region _ _ false) _) _ _; refine gs ?_) | (show RP _ (.seq (.region _ _ true) _) _ _; first | refine gD ?_ | refine gW ?_ | refine gm ?_) | (show RP _ (.cond _ _ _) _ _; first | refine gT ?_ | refine gF ?_) | apply gskip | apply rp_ret | apply rp_exit | apply rp_skip | apply rp_block | (show RP _ (.region _ _ false) _ _; refine ge ?_) | (show RP _ (.region _ _ true) _ _; first | refine gG ?_ | refine gV ?_ | refine gn ?_) | apply rp_seq)
  show Q .ret _; refine fin_ret hQ rfl ?_
  rfl
theorem good6 (l : List (List Int)) (h : l.length ≤ 5864062014805 ∧ ∀ i, i < l.length → (nthR l i).length ≤ 17592186043904) : Good Try.prog 6 [rows l] (bv true) :=
  goodBy3 E6_ok Try.func6 rfl (Nat.le_of_ble_eq_true rfl) (by decide) (w6 l h.1 h.2)
end Go.Proofs.Ytngglgkemonibaa.L
