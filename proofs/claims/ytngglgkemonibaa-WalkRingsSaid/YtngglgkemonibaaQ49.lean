/- T8: the law WalkRings. -/
import Derived.Test.YtngglgkemonibaaQ45
import Derived.Test.YtngglgkemonibaaQ46
import Derived.Test.YtngglgkemonibaaQ48
set_option linter.unusedVariables false
set_option linter.unusedSimpArgs false
set_option linter.unnecessarySimpa false
namespace Go.Proofs.Ytngglgkemonibaa.L
open Go Go.RowKit Go.Proofs.Ytngglgkemonibaa.B
set_option maxRecDepth 100000
set_option maxHeartbeats 4000000
theorem turnP_same {c : List Int} (h : c.length < 3 ∨ ¬ c.Nodup) : turnP c = c := if_pos h
theorem turnP_row {c : List Int} (h3 : 3 ≤ c.length) (hn : c.Nodup) : turnP c = P.turnRow c := if_neg (fun h => h.elim (by omega) (fun h => h hn))
theorem turnP_len (c : List Int) : (turnP c).length = c.length := by
  by_cases h : c.length < 3 ∨ ¬ c.Nodup
  · rw [turnP_same h]
  · rw [turnP_row (by omega) (Classical.byContradiction fun hn => h (.inr hn))]
    exact P.round_length (P.turn_like (by omega) (Classical.byContradiction fun hn => h (.inr hn))).1
theorem turnP_turn (c : List Int) : turnP (turnP c) = turnP c := by
  by_cases h : c.length < 3 ∨ ¬ c.Nodup
  · rw [turnP_same h, turnP_same h]
  · have h3 : 3 ≤ c.length := by omega
    have hn : c.Nodup := Classical.byContradiction fun hn => h (.inr hn)
    have hR := (P.turn_like h3 hn).1
    rw [turnP_row h3 hn, turnP_row (by rw [P.round_length hR]; exact h3) ((P.round_perm hR).nodup_iff.2 hn)]
    exact P.turn_round h3 hn hR
theorem turnP_round {c t : List Int} (h3 : 3 ≤ c.length) (hn : c.Nodup) (hR : P.Round c t) : turnP t = turnP c := by
  rw [turnP_row h3 hn, turnP_row (by rw [P.round_length hR]; exact h3) ((P.round_perm hR).nodup_iff.2 hn)]
  exact P.turn_round h3 hn hR
theorem and16 (a : Int) : ∃ m : Nat, m < 65536 ∧ andI a 65535 = (m : Int) := by
  have h : (BitVec.ofInt 64 a &&& BitVec.ofInt 64 65535).toNat < 65536 := by
    rw [BitVec.toNat_and]
    have : (BitVec.ofInt 64 65535).toNat = 65535 := by decide
    rw [this]
    exact Nat.lt_of_le_of_lt (Nat.and_le_right) (by decide)
  refine ⟨_, h, ?_⟩
  unfold andI
  rw [wrap_in _ (by omega)]
theorem and16_mod (a : Int) (n : Nat) (hn : 0 < n) : ∃ f : Nat, f < n ∧ (andI a 65535).tmod (n : Int) = (f : Int) := by
  obtain ⟨m, _, e⟩ := and16 a
  exact ⟨m % n, Nat.mod_lt _ hn, by rw [e]; rfl⟩
@[simp] theorem toNat_emod2 (a b c : Nat) : (((a : Int) + (b : Int)) % (c : Int)).toNat = (a + b) % c := rfl
@[simp] theorem toNat_emod1 (a c : Nat) : ((a : Int) % (c : Int)).toNat = a % c := rfl
abbrev E8 : Env := ext (ext (ext (ext env0 11 spec11) 22 spec22) 19 spec19) 26 spec26
theorem E8_ok : EnvOk Try.prog E8 := ext_ok (ext_ok (ext_ok (ext_ok env0_ok ok11) ok22) ok19) ok26
def rotTo (c : List Int) (f i : Nat) : List Int := (List.range i).map fun j => nth c ((f + j) % c.length)
def revTo (c : List Int) (f i : Nat) : List Int := (List.range i).map fun j => nth c ((f + c.length - j) % c.length)
theorem rotTo_succ (c : List Int) (f i : Nat) : rotTo c f (i + 1) = rotTo c f i ++ [nth c ((f + i) % c.length)] := by unfold rotTo; rw [List.range_succ, List.map_append]; rfl
theorem revTo_succ (c : List Int) (f i : Nat) : revTo c f (i + 1) = revTo c f i ++ [nth c ((f + c.length - i) % c.length)] := by unfold revTo; rw [List.range_succ, List.map_append]; rfl
theorem rotTo_len (c : List Int) (f i : Nat) : (rotTo c f i).length = i := by unfold rotTo; rw [List.length_map, List.length_range]
theorem revTo_len (c : List Int) (f i : Nat) : (revTo c f i).length = i := by unfold revTo; rw [List.length_map, List.length_range]
@[simp] theorem tmodAdd (a b c : Nat) : ((a : Int) + (b : Int)).tmod (c : Int) = (((a + b) % c : Nat) : Int) := rfl
@[simp] theorem tmodSub (a b c i : Nat) (h : i ≤ a + b) : ((a : Int) + (b : Int) - (i : Int)).tmod (c : Int) = (((a + b - i) % c : Nat) : Int) := by
  rw [show (a : Int) + (b : Int) - (i : Int) = ((a + b - i : Nat) : Int) by omega]; rfl
theorem w8 (c0 : List Int) (a : Int) (hc0 : c0.length ≤ 17592186043904) : ∃ c, Try.f8.body = some c ∧ RP (regOf Try.prog E8 136 u8) c (argsSt 0 [ints c0, iv a]) (endsAs Try.prog Try.f8 (bv true)) := by
  refine ⟨_, rfl, ?_⟩
  generalize hQ : endsAs Try.prog Try.f8 (bv true) = Q
  simp only [argsSt]
  repeat (first | (show RP _ (.seq (.region _ _ false) _) _ _; refine gs ?_) | (show RP _ (.seq (.region _ _ true) _) _ _; first | refine gD ?_ | refine gW ?_ | refine gm ?_) | (show RP _ (.cond _ _ _) _ _; first | refine gT ?_ | refine gF ?_) | apply gskip | apply rp_ret | apply rp_exit | apply rp_skip | apply rp_block | (show RP _ (.region _ _ false) _ _; refine ge ?_) | (show RP _ (.region _ _ true) _ _; first | refine gG ?_ | refine gV ?_ | refine gn ?_) | apply rp_seq)
  have h1 : (c0.take (min c0.length 100)).length ≤ 100 := by rw [List.length_take]; omega
  generalize c0.take (min c0.length 100) = c at *
  clear hc0 c0
  have ht := turnP_len c
  have ht2 := turnP_turn c
  have hsame : ¬ c.Nodup ∨ c.length < 3 → turnP c = c := fun h => turnP_same (h.elim .inr .inl)
  have hlen2 : (turnP (turnP c)).length ≤ 100 := by rw [ht2, ht]; exact h1
  repeat (first | (show RP _ (.seq (.region _ _ false) _) _ _; refine gs ?_) | (show RP _ (.seq (.region _ _ true) _) _ _; first | refine gD ?_ | refine gW ?_ | refine gm ?_) | (show RP _ (.cond _ _ _) _ _; first | refine gT ?_ | refine gF ?_) | apply gskip | apply rp_ret | apply rp_exit | apply rp_skip | apply rp_block | (show RP _ (.region _ _ false) _ _; refine ge ?_) | (show RP _ (.region _ _ true) _ _; first | refine gG ?_ | refine gV ?_ | refine gn ?_) | apply rp_seq)
  refine RP.mono (Q := fun e σ => (e = .ret ∧ σ = [(4, bv true)]) ∨ (e = .exit 0 ∧ c.Nodup ∧ ∃ w w' : SV Unit, σ = [(0, ow c), (1, iv a), (5, bv true), (6, ow (turnP c)), (7, iv c.length), (8, w), (39, w')])) ?_ ?_
  · apply rp_loop (fun k σ => ∃ i : Nat, i ≤ c.length ∧ k = c.length - i ∧ (∀ x y, x < i → y < x → nth c x ≠ nth c y) ∧ σ = [(0, ow c), (1, iv a), (5, bv true), (6, ow (turnP c)), (7, iv c.length), (8, iv i)]) c.length
    · exact ⟨0, by omega, by omega, fun x y h => by omega, rfl⟩
    rintro k σ ⟨i, hi, rfl, hno, rfl⟩
    by_cases hil : i < c.length
    case neg =>
      repeat (first | (show RP _ (.seq (.region _ _ false) _) _ _; refine gs ?_) | (show RP _ (.seq (.region _ _ true) _) _ _; first | refine gD ?_ | refine gW ?_ | refine gm ?_) | (show RP _ (.cond _ _ _) _ _; first | refine gT ?_ | refine gF ?_) | apply gskip | apply rp_ret | apply rp_exit | apply rp_skip | apply rp_block | (show RP _ (.region _ _ false) _ _; refine ge ?_) | (show RP _ (.region _ _ true) _ _; first | refine gG ?_ | refine gV ?_ | refine gn ?_) | apply rp_seq)
      refine .inr ⟨rfl, ?_, _, _, rfl⟩
      rw [List.Nodup, List.pairwise_iff_getElem]
      intro x y hx hy hxy
      have := hno y x (by omega) hxy
      rw [nth_eq hx, nth_eq hy] at this
      exact fun h => this h.symm
    repeat (first | (show RP _ (.seq (.region _ _ false) _) _ _; refine gs ?_) | (show RP _ (.seq (.region _ _ true) _) _ _; first | refine gD ?_ | refine gW ?_ | refine gm ?_) | (show RP _ (.cond _ _ _) _ _; first | refine gT ?_ | refine gF ?_) | apply gskip | apply rp_ret | apply rp_exit | apply rp_skip | apply rp_block | (show RP _ (.region _ _ false) _ _; refine ge ?_) | (show RP _ (.region _ _ true) _ _; first | refine gG ?_ | refine gV ?_ | refine gn ?_) | apply rp_seq)
    refine RP.mono (Q := fun e σ => (e = .ret ∧ σ = [(4, bv true)]) ∨ (e = .exit 2 ∧ (∀ y, y < i → nth c i ≠ nth c y) ∧ ∃ w w' : SV Unit, σ = [(0, ow c), (1, iv a), (5, bv true), (6, ow (turnP c)), (7, iv c.length), (8, iv i), (9, w), (44, w')])) ?_ ?_
    · apply rp_loop (fun k σ => ∃ j : Nat, j ≤ i ∧ k = i - j ∧ (∀ y, y < j → nth c i ≠ nth c y) ∧ σ = [(0, ow c), (1, iv a), (5, bv true), (6, ow (turnP c)), (7, iv c.length), (8, iv i), (9, iv j)]) i
      · exact ⟨0, by omega, by omega, fun y h => by omega, rfl⟩
      rintro k σ ⟨j, hj, rfl, hnj, rfl⟩
      by_cases hjl : j < i
      case neg =>
        repeat (first | (show RP _ (.seq (.region _ _ false) _) _ _; refine gs ?_) | (show RP _ (.seq (.region _ _ true) _) _ _; first | refine gD ?_ | refine gW ?_ | refine gm ?_) | (show RP _ (.cond _ _ _) _ _; first | refine gT ?_ | refine gF ?_) | apply gskip | apply rp_ret | apply rp_exit | apply rp_skip | apply rp_block | (show RP _ (.region _ _ false) _ _; refine ge ?_) | (show RP _ (.region _ _ true) _ _; first | refine gG ?_ | refine gV ?_ | refine gn ?_) | apply rp_seq)
        exact .inr ⟨rfl, fun y hy => hnj y (by omega), _, _, rfl⟩
      by_cases he : nth c i = nth c j
      · have hd : turnP c = c := hsame (.inl fun h => by
          rw [List.Nodup, List.pairwise_iff_getElem] at h
          have := h j i (by omega) hil hjl
          rw [nth_eq hil, nth_eq (by omega)] at he
          exact this he.symm)
        repeat (first | (show RP _ (.seq (.region _ _ false) _) _ _; refine gs ?_) | (show RP _ (.seq (.region _ _ true) _) _ _; first | refine gD ?_ | refine gW ?_ | refine gm ?_) | (show RP _ (.cond _ _ _) _ _; first | refine gT ?_ | refine gF ?_) | apply gskip | apply rp_ret | apply rp_exit | apply rp_skip | apply rp_block | (show RP _ (.region _ _ false) _ _; refine ge ?_) | (show RP _ (.region _ _ true) _ _; first | refine gG ?_ | refine gV ?_ | refine gn ?_) | apply rp_seq)
        exact .inl ⟨rfl, rfl⟩
      · repeat (first | (show RP _ (.seq (.region _ _ false) _) _ _; refine gs ?_) | (show RP _ (.seq (.region _ _ true) _) _ _; first | refine gD ?_ | refine gW ?_ | refine gm ?_) | (show RP _ (.cond _ _ _) _ _; first | refine gT ?_ | refine gF ?_) | apply gskip | apply rp_ret | apply rp_exit | apply rp_skip | apply rp_block | (show RP _ (.region _ _ false) _ _; refine ge ?_) | (show RP _ (.region _ _ true) _ _; first | refine gG ?_ | refine gV ?_ | refine gn ?_) | apply rp_seq)
        refine nxt (i - (j + 1)) (by omega) ⟨j + 1, by omega, by omega, fun y hy => ?_, rfl⟩
        rcases Nat.lt_succ_iff_lt_or_eq.1 hy with h | rfl
        · exact hnj y h
        · exact he
    rintro e σ (⟨rfl, rfl⟩ | ⟨rfl, hall, w, w', rfl⟩)
    · exact .inl ⟨rfl, rfl⟩
    simp only [inBlock_exit, if_true, thenR_normal]
    repeat (first | (show RP _ (.seq (.region _ _ false) _) _ _; refine gs ?_) | (show RP _ (.seq (.region _ _ true) _) _ _; first | refine gD ?_ | refine gW ?_ | refine gm ?_) | (show RP _ (.cond _ _ _) _ _; first | refine gT ?_ | refine gF ?_) | apply gskip | apply rp_ret | apply rp_exit | apply rp_skip | apply rp_block | (show RP _ (.region _ _ false) _ _; refine ge ?_) | (show RP _ (.region _ _ true) _ _; first | refine gG ?_ | refine gV ?_ | refine gn ?_) | apply rp_seq)
    refine nxt (c.length - (i + 1)) (by omega) ⟨i + 1, by omega, by omega, fun x y hx hy => ?_, rfl⟩
    rcases Nat.lt_succ_iff_lt_or_eq.1 hx with h | rfl
    · exact hno x y h hy
    · exact hall y hy
  rintro e σ (⟨rfl, rfl⟩ | ⟨rfl, hnd, w, w', rfl⟩)
  · show Q .ret _; refine fin_ret hQ rfl ?_
    rfl
  simp only [inBlock_exit, if_true, thenR_normal]
  by_cases h3 : c.length < 3
  · have hd : turnP c = c := hsame (.inr h3)
    repeat (first | (show RP _ (.seq (.region _ _ false) _) _ _; refine gs ?_) | (show RP _ (.seq (.region _ _ true) _) _ _; first | refine gD ?_ | refine gW ?_ | refine gm ?_) | (show RP _ (.cond _ _ _) _ _; first | refine gT ?_ | refine gF ?_) | apply gskip | apply rp_ret | apply rp_exit | apply rp_skip | apply rp_block | (show RP _ (.region _ _ false) _ _; refine ge ?_) | (show RP _ (.region _ _ true) _ _; first | refine gG ?_ | refine gV ?_ | refine gn ?_) | apply rp_seq)
    show Q .ret _; refine fin_ret hQ rfl ?_
    rfl
  have hne : ¬ c = [] := fun h => by rw [h] at h3; exact h3 (by decide)
  have hlt : nth (turnP c) 1 < nth (turnP c) (c.length - 1) := by
    rw [turnP_row (by omega) hnd]; exact (P.turn_like (by omega) hnd).2.2
  have hin : nth (turnP c) 0 ∈ c := by
    have hR := (P.turn_like (c := c) (by omega) hnd).1
    rw [turnP_row (by omega) hnd]
    exact (P.round_perm hR).mem_iff.1 (mem_nth.2 ⟨0, by rw [P.round_length hR]; omega, rfl⟩)
  obtain ⟨f, hf, hfe⟩ := and16_mod a c.length (by omega)
  repeat (first | (show RP _ (.seq (.region _ _ false) _) _ _; refine gs ?_) | (show RP _ (.seq (.region _ _ true) _) _ _; first | refine gD ?_ | refine gW ?_ | refine gm ?_) | (show RP _ (.cond _ _ _) _ _; first | refine gT ?_ | refine gF ?_) | apply gskip | apply rp_ret | apply rp_exit | apply rp_skip | apply rp_block | (show RP _ (.region _ _ false) _ _; refine ge ?_) | (show RP _ (.region _ _ true) _ _; first | refine gG ?_ | refine gV ?_ | refine gn ?_) | apply rp_seq)
  rw [hfe]
  refine RP.mono (Q := fun e σ => e = .exit 4 ∧ σ = [(0, ow c), (1, iv f), (5, bv true), (6, ow (turnP c)), (7, iv c.length), (10, ow (rotTo c f c.length)), (11, ow (revTo c f c.length)), (12, iv c.length), (78, bv false)]) ?_ ?_
  · apply rp_loop (fun k σ => ∃ i : Nat, i ≤ c.length ∧ k = c.length - i ∧ σ = [(0, ow c), (1, iv f), (5, bv true), (6, ow (turnP c)), (7, iv c.length), (10, ow (rotTo c f i)), (11, ow (revTo c f i)), (12, iv i)]) c.length
    · exact ⟨0, by omega, by omega, rfl⟩
    rintro k σ ⟨i, hi, rfl, rfl⟩
    by_cases hil : i < c.length
    case neg =>
      obtain rfl : i = c.length := by omega
      repeat (first | (show RP _ (.seq (.region _ _ false) _) _ _; refine gs ?_) | (show RP _ (.seq (.region _ _ true) _) _ _; first | refine gD ?_ | refine gW ?_ | refine gm ?_) | (show RP _ (.cond _ _ _) _ _; first | refine gT ?_ | refine gF ?_) | apply gskip | apply rp_ret | apply rp_exit | apply rp_skip | apply rp_block | (show RP _ (.region _ _ false) _ _; refine ge ?_) | (show RP _ (.region _ _ true) _ _; first | refine gG ?_ | refine gV ?_ | refine gn ?_) | apply rp_seq)
      exact ⟨rfl, rfl⟩
    have hm1 := Nat.mod_lt (f + i) (show c.length > 0 by omega)
    have hm2 := Nat.mod_lt (f + c.length - i) (show c.length > 0 by omega)
    have b1 : 0 ≤ ((f : Int) + (i : Int)) % (c.length : Int) ∧ ((f : Int) + (i : Int)) % (c.length : Int) < c.length := ⟨Int.emod_nonneg _ (by omega), Int.emod_lt_of_pos _ (by omega)⟩
    have b2 : 0 ≤ ((f + c.length - i : Nat) : Int) % (c.length : Int) ∧ ((f + c.length - i : Nat) : Int) % (c.length : Int) < c.length := ⟨Int.emod_nonneg _ (by omega), Int.emod_lt_of_pos _ (by omega)⟩
    have hl1 := rotTo_len c f i
    have hl2 := revTo_len c f i
    have hs1 := rotTo_succ c f i
    have hs2 := revTo_succ c f i
    generalize rotTo c f i = one at *
    generalize revTo c f i = two at *
    repeat (first | (show RP _ (.seq (.region _ _ false) _) _ _; refine gs ?_) | (show RP _ (.seq (.region _ _ true) _) _ _; first | refine gD ?_ | refine gW ?_ | refine gm ?_) | (show RP _ (.cond _ _ _) _ _; first | refine gT ?_ | refine gF ?_) | apply gskip | apply rp_ret | apply rp_exit | apply rp_skip | apply rp_block | (show RP _ (.region _ _ false) _ _; refine ge ?_) | (show RP _ (.region _ _ true) _ _; first | refine gG ?_ | refine gV ?_ | refine gn ?_) | apply rp_seq)
    exact nxt (c.length - (i + 1)) (by omega) ⟨i + 1, by omega, by omega, by rw [hs1, hs2]; simp⟩
  rintro e σ ⟨rfl, rfl⟩
  simp only [inBlock_exit, if_true, thenR_normal]
  have e1 : turnP (rotTo c f c.length) = turnP c := turnP_round (by omega) hnd ⟨f, hf, .inl rfl⟩
  have e2 : turnP (revTo c f c.length) = turnP c := turnP_round (by omega) hnd ⟨f, hf, .inr rfl⟩
  have g1 := rotTo_len c f c.length
  have g2 := revTo_len c f c.length
  have g3 := turnP_len (rotTo c f c.length)
  have g4 := turnP_len (revTo c f c.length)
  repeat (first | (show RP _ (.seq (.region _ _ false) _) _ _; refine gs ?_) | (show RP _ (.seq (.region _ _ true) _) _ _; first | refine gD ?_ | refine gW ?_ | refine gm ?_) | (show RP _ (.cond _ _ _) _ _; first | refine gT ?_ | refine gF ?_) | apply gskip | apply rp_ret | apply rp_exit | apply rp_skip | apply rp_block | (show RP _ (.region _ _ false) _ _; refine ge ?_) | (show RP _ (.region _ _ true) _ _; first | refine gG ?_ | refine gV ?_ | refine gn ?_) | apply rp_seq)
  show Q .ret _; refine fin_ret hQ rfl ?_
  rfl
theorem good8 (c0 : List Int) (a : Int) (hc0 : c0.length ≤ 17592186043904) : Good Try.prog 8 [ints c0, iv a] (bv true) :=
  goodBy2 E8_ok Try.func8 rfl (Nat.le_of_ble_eq_true rfl) (by decide) (w8 c0 a hc0)
end Go.Proofs.Ytngglgkemonibaa.L
