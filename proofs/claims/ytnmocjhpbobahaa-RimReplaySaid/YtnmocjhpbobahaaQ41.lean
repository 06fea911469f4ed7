/- R15: rim.Replay of a right graph. -/
import Derived.Test.YtnmocjhpbobahaaQ38
import Derived.Test.YtnmocjhpbobahaaQ39
import Derived.Test.YtnmocjhpbobahaaQ14
import Derived.Test.YtnmocjhpbobahaaQ36
import Derived.Test.YtnmocjhpbobahaaQ40
set_option linter.unusedVariables false
set_option linter.unusedSimpArgs false
set_option linter.unnecessarySimpa false
namespace Go.Proofs.Ytnmocjhpbobahaa.L
open Go Go.RowKit
set_option maxRecDepth 100000
set_option maxHeartbeats 4000000
attribute [local simp] lendO
noncomputable abbrev EReplay : Env := ext (ext (ext (ext env0 21 spec32) 27 specBegin) 37 specRepl) 38 specState
theorem stepF_ok {n : Nat} {r r' : Rst} {e : Cu} (hr : RstI n r) (h : stepF n r e = some r') : RstI n r' ∧ ∃ (a b c : Nat) (p q s : Int), e = ((a : Int), (b : Int), (c : Int), p, q, s) ∧ CutI n r a b c p q s ∧ doF r e = (r', true) := by
  unfold stepF at h
  split at h
  · next hh =>
    obtain ⟨h1, h2, h3, h4⟩ := hh
    obtain rfl := Option.some.inj h
    obtain ⟨A, B, C, P, Q, S⟩ := e
    unfold okAt at h1
    simp only at h1 h2 h3
    obtain ⟨a, rfl⟩ : ∃ a : Nat, A = (a : Int) := ⟨A.toNat, by omega⟩
    obtain ⟨b, rfl⟩ : ∃ b : Nat, B = (b : Int) := ⟨B.toNat, by omega⟩
    obtain ⟨c, rfl⟩ : ∃ c : Nat, C = (c : Int) := ⟨C.toNat, by omega⟩
    simp only [Int.toNat_natCast] at h2 h3
    obtain ⟨p, q, s, he, k⟩ := cutI hr.toRstS (by omega) (by omega) (by omega : c < n) (e := (cutF r a b c).1) (Prod.ext rfl h2)
    unfold sameO at h3
    rw [he] at h3
    obtain ⟨rfl, rfl, rfl⟩ := same3_iff.1 h3
    exact ⟨(do_step hr k).1, a, b, c, p, q, s, rfl, k, Prod.ext rfl h4⟩
  · cases h
theorem replF_ok {n : Nat} : ∀ {l : List Cu} {r : Rst}, RstI n r → RstI n (replF n r l).1 ∧ (replF n r l).2 ≤ l.length
  | [], r, h => ⟨h, Nat.le_refl _⟩
  | e :: l, r, h => by
    unfold replF
    cases hs : stepF n r e with
    | none => exact ⟨h, Nat.zero_le _⟩
    | some r' =>
      have := replF_ok (l := l) (stepF_ok h hs).1
      exact ⟨this.1, by simp only [List.length_cons]; omega⟩
abbrev stB (r : Rst) (k : Nat) : SV Unit := ⟨.tup [some 3, none], [.c (.sl true 1 () (IL (leftF r r.near.length))), .c (.sl true 2 () (EL (edgesF r r.near.length))), .c (.sl true 1 () (IL (marksF r r.near.length))), .c (.sc (.int .i64 k))]⟩
@[simp] theorem bOwn (r : Rst) : (one (.c (rstO r)) : SV Unit) = ⟨.one, [.c (rstO r)]⟩ := rfl
theorem wReplay (n : Nat) (es : List (Int × Int)) (hR : RightG n es) (l : List Cu) (hl : l.length ≤ 1000000) : ∃ c, Try.f15.body = some c ∧ RP (regOf Try.prog EReplay 20 u15) c (argsSt 0 [gr n es, cuts l]) (endsAs Try.prog Try.f15 (stB (replF n (beginF n es) l).1 (replF n (beginF n es) l).2)) := by
  refine ⟨_, rfl, ?_⟩
  generalize hQ : endsAs Try.prog Try.f15 (stB (replF n (beginF n es) l).1 (replF n (beginF n es) l).2) = Q
  simp only [argsSt]
  have hn := hR.1
  have hb := begin_ok hR
  have hbn := hb.near
  have rok : ReplOk (beginF n es) l := ⟨by rw [hbn]; exact hb, by omega, hl⟩
  have hk := (replF_ok (l := l) hb).1
  have hkn := hk.near
  have sok : StateOk (replF (beginF n es).near.length (beginF n es) l).1 := by
    rw [hbn]
    exact ⟨by rw [hkn]; exact hk.toRstOk, by omega⟩
  refine go ?_
  rw [hbn]
  show Q .ret _; refine fin_ret hQ rfl ?_
  rfl
theorem EReplay_ok : EnvOk Try.prog EReplay := ext_ok (ext_ok (ext_ok (ext_ok env0_ok ok32) okBegin) okRepl) okState
noncomputable def specReplayR : Spec := spec2 asGr asCuts fun g l => when (RightG g.1 g.2 ∧ l.length ≤ 1000000) (stB (replF g.1.toNat (beginF g.1.toNat g.2) l).1 (replF g.1.toNat (beginF g.1.toNat g.2) l).2)
theorem okReplayR : SpecOk 15 specReplayR := by
  intro us r h
  obtain ⟨x, y, g, l, rfl, hg, hl, h⟩ := spec2_eq h
  obtain ⟨⟨h1, h2⟩, rfl⟩ := when_eq h
  rw [asGr_eq hg, asCuts_eq hl]
  have h0 : ((g.1.toNat : Nat) : Int) = g.1 := by have := h1.1; omega
  have hw := wReplay g.1.toNat g.2 (by rw [h0]; exact h1) l h2
  rw [h0] at hw
  exact goodBy2 EReplay_ok Try.func15 rfl (Nat.le_of_ble_eq_true rfl) (by decide) hw
@[simp] theorem sReplayR (n : Nat) (es : List (Int × Int)) (l : List Cu) (h : RightG n es ∧ l.length ≤ 1000000) : specReplayR [gr n es, cuts l] = some (stB (replF n (beginF n es) l).1 (replF n (beginF n es) l).2) := by
  unfold specReplayR; rw [spec2_v (asGr_gr (n : Int) es) (asCuts_cuts l)]; exact when_pos _ h
end Go.Proofs.Ytnmocjhpbobahaa.L
