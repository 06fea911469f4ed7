/- R15: rim.Replay of a right graph. RR: a run's cuts, replayed; what is left then. -/
import Derived.Test.YtnmocjhpbobahaaQ38
import Derived.Test.YtnmocjhpbobahaaQ34
import Derived.Test.YtnmocjhpbobahaaQ20
import Derived.Test.YtnmocjhpbobahaaQ31
import Derived.Test.YtnmocjhpbobahaaQ35
import Derived.Test.YtnmocjhpbobahaaQ36
set_option linter.unusedVariables false
set_option linter.unusedSimpArgs false
set_option linter.unnecessarySimpa false
namespace Go.Proofs.Ytnmocjhpbobahaa.L
open Go Go.RowKit
set_option maxRecDepth 100000
set_option maxHeartbeats 4000000
attribute [local simp] lendO
noncomputable abbrev EReplay : Env := ext (ext (ext (ext env0 21 spec32) 27 specBegin) 37 specRepl) 38 specState
theorem stepF_ok {n : Nat} {r r' : Rst} {e : Cu} (hr : RstI n r) (h : stepF n r e = some r') : RstI n r' ∧ ∃ (a b c : Nat) (p q s : Int), e = ((a : Int), (b : Int), (c : Int), p, q, s) ∧ CutI n r a b c p q s ∧ doF r e = (r', true) := by
  unfold stepF at h
  split at h
  · next hh =>
    obtain ⟨h1, h2, h3, h4⟩ := hh
    obtain rfl := Option.some.inj h
    obtain ⟨A, B, C, P, Q, S⟩ := e
    unfold okAt at h1
    simp only at h1 h2 h3
    obtain ⟨a, rfl⟩ : ∃ a : Nat, A = (a : Int) := ⟨A.toNat, by omega⟩
    obtain ⟨b, rfl⟩ : ∃ b : Nat, B = (b : Int) := ⟨B.toNat, by omega⟩
    obtain ⟨c, rfl⟩ : ∃ c : Nat, C = (c : Int) := ⟨C.toNat, by omega⟩
    simp only [Int.toNat_natCast] at h2 h3
    obtain ⟨p, q, s, he, k⟩ := cutI hr.toRstS (by omega) (by omega) (by omega : c < n) (e := (cutF r a b c).1) (Prod.ext rfl h2)
    unfold sameO at h3
    rw [he] at h3
    obtain ⟨rfl, rfl, rfl⟩ := same3_iff.1 h3
    exact ⟨(do_step hr k).1, a, b, c, p, q, s, rfl, k, Prod.ext rfl h4⟩
  · cases h
theorem replF_ok {n : Nat} : ∀ {l : List Cu} {r : Rst}, RstI n r → RstI n (replF n r l).1 ∧ (replF n r l).2 ≤ l.length
  | [], r, h => ⟨h, Nat.le_refl _⟩
  | e :: l, r, h => by
    unfold replF
    cases hs : stepF n r e with
    | none => exact ⟨h, Nat.zero_le _⟩
    | some r' =>
      have := replF_ok (l := l) (stepF_ok h hs).1
      exact ⟨this.1, by simp only [List.length_cons]; omega⟩
abbrev stB (r : Rst) (k : Nat) : SV Unit := ⟨.tup [some 3, none], [.c (.sl true 1 () (IL (leftF r r.near.length))), .c (.sl true 2 () (EL (edgesF r r.near.length))), .c (.sl true 1 () (IL (marksF r r.near.length))), .c (.sc (.int .i64 k))]⟩
@[simp] theorem bOwn (r : Rst) : (one (.c (rstO r)) : SV Unit) = ⟨.one, [.c (rstO r)]⟩ := rfl
theorem wReplay (n : Nat) (es : List (Int × Int)) (hR : RightG n es) (l : List Cu) (hl : l.length ≤ 1000000) : ∃ c, Try.f15.body = some c ∧ RP (regOf Try.prog EReplay 20 u15) c (argsSt 0 [gr n es, cuts l]) (endsAs Try.prog Try.f15 (stB (replF n (beginF n es) l).1 (replF n (beginF n es) l).2)) := by
  refine ⟨_, rfl, ?_⟩
  generalize hQ : endsAs Try.prog Try.f15 (stB (replF n (beginF n es) l).1 (replF n (beginF n es) l).2) = Q
  simp only [argsSt]
  have hn := hR.1
  have hb := begin_ok hR
  have hbn := hb.near
  have rok : ReplOk (beginF n es) l := ⟨by rw [hbn]; exact hb, by omega, hl⟩
  have hk := (replF_ok (l := l) hb).1
  have hkn := hk.near
  have sok : StateOk (replF (beginF n es).near.length (beginF n es) l).1 := by
    rw [hbn]
    exact ⟨by rw [hkn]; exact hk.toRstOk, by omega⟩
  refine go ?_
  rw [hbn]
  show Q .ret _; refine fin_ret hQ rfl ?_
  rfl
theorem EReplay_ok : EnvOk Try.prog EReplay := ext_ok (ext_ok (ext_ok (ext_ok env0_ok ok32) okBegin) okRepl) okState
noncomputable def specReplayR : Spec := spec2 asGr asCuts fun g l => when (RightG g.1 g.2 ∧ l.length ≤ 1000000) (stB (replF g.1.toNat (beginF g.1.toNat g.2) l).1 (replF g.1.toNat (beginF g.1.toNat g.2) l).2)
theorem okReplayR : SpecOk 15 specReplayR := by
  intro us r h
  obtain ⟨x, y, g, l, rfl, hg, hl, h⟩ := spec2_eq h
  obtain ⟨⟨h1, h2⟩, rfl⟩ := when_eq h
  rw [asGr_eq hg, asCuts_eq hl]
  have h0 : ((g.1.toNat : Nat) : Int) = g.1 := by have := h1.1; omega
  have hw := wReplay g.1.toNat g.2 (by rw [h0]; exact h1) l h2
  rw [h0] at hw
  exact goodBy2 EReplay_ok Try.func15 rfl (Nat.le_of_ble_eq_true rfl) (by decide) hw
@[simp] theorem sReplayR (n : Nat) (es : List (Int × Int)) (l : List Cu) (h : RightG n es ∧ l.length ≤ 1000000) : specReplayR [gr n es, cuts l] = some (stB (replF n (beginF n es) l).1 (replF n (beginF n es) l).2) := by
  unfold specReplayR; rw [spec2_v (asGr_gr (n : Int) es) (asCuts_cuts l)]; exact when_pos _ h
end Go.Proofs.Ytnmocjhpbobahaa.L
namespace Go.Proofs.Ytnmocjhpbobahaa.L
open Go Go.RowKit
set_option maxRecDepth 100000
theorem stepF_cut {n : Nat} {r : Rst} {a b c : Nat} {p q s : Int} (k : CutI n r a b c p q s) (hcut : cutF r a b c = (((a : Int), (b : Int), (c : Int), p, q, s), true)) (hd : (doF r ((a : Int), (b : Int), (c : Int), p, q, s)).2 = true) : stepF n r ((a : Int), (b : Int), (c : Int), p, q, s) = some (doF r ((a : Int), (b : Int), (c : Int), p, q, s)).1 := by
  unfold stepF
  rw [if_pos]
  refine ⟨?_, ?_, ?_, hd⟩
  · unfold okAt; have := k.ab; have := k.bc; have := k.cn; simp only; omega
  · simp only [Int.toNat_natCast, hcut]
  · simp only [Int.toNat_natCast, hcut]
    unfold sameO
    exact same3_iff.2 ⟨rfl, rfl, rfl⟩
theorem run_replay {n : Nat} : ∀ (k : Nat) {r : Rst} {cs : List Cu} {e : Int} {out : List Cu}, RstD n r → 4 ≤ r.count → runF k r cs = (e, out) → e ≠ 5 → ∃ tail, out = cs ++ tail ∧ ∀ m, m ≤ tail.length → (replF n r (tail.take m)).2 = m ∧ RstD n (replF n r (tail.take m)).1 ∧ 4 ≤ (replF n r (tail.take m)).1.count ∧ r.count - 2 * m ≤ (replF n r (tail.take m)).1.count ∧ (replF n r (tail.take m)).1.count ≤ r.count - m
  | k, r, cs, e, out, hr, h4, hrun, he => by
    have triv : out = cs → ∃ tail, out = cs ++ tail ∧ ∀ m, m ≤ tail.length → (replF n r (tail.take m)).2 = m ∧ RstD n (replF n r (tail.take m)).1 ∧ 4 ≤ (replF n r (tail.take m)).1.count ∧ r.count - 2 * m ≤ (replF n r (tail.take m)).1.count ∧ (replF n r (tail.take m)).1.count ≤ r.count - m := by
      rintro rfl
      refine ⟨[], by simp, fun m hm => ?_⟩
      obtain rfl : m = 0 := by simpa using hm
      exact ⟨rfl, hr, h4, by show r.count - 2 * ((0 : Nat) : Int) ≤ r.count; omega, by show r.count ≤ r.count - ((0 : Nat) : Int); omega⟩
    cases k with
    | zero => rw [runF, Prod.mk.injEq] at hrun; exact triv hrun.2.symm
    | succ k =>
      rw [runF] at hrun
      split at hrun
      · split at hrun
        · rw [Prod.mk.injEq] at hrun; exact triv hrun.2.symm
        · rw [Prod.mk.injEq] at hrun; exact triv hrun.2.symm
      · split at hrun
        · rw [Prod.mk.injEq] at hrun; exact triv hrun.2.symm
        · next f hle =>
          obtain ⟨a, b, c, p, q, s, rfl, ki, hcut⟩ := leastF_cut hr.toRstI hle
          split at hrun
          · next hd =>
            obtain ⟨g1, g2, g3, g4⟩ := do_keeps hr ki hd
            obtain ⟨tail, e1, e2⟩ := run_replay k g1 g2 hrun he
            refine ⟨((a : Int), (b : Int), (c : Int), p, q, s) :: tail, by rw [e1, List.append_assoc]; rfl, fun m hm => ?_⟩
            cases m with
            | zero => exact ⟨rfl, hr, h4, by show r.count - 2 * ((0 : Nat) : Int) ≤ r.count; omega, by show r.count ≤ r.count - ((0 : Nat) : Int); omega⟩
            | succ m =>
              have hs := stepF_cut ki hcut hd
              obtain ⟨f1, f2, f3, f4, f5⟩ := e2 m (by rw [List.length_cons] at hm; omega)
              have hre : replF n r ((((a : Int), (b : Int), (c : Int), p, q, s) :: tail).take (m + 1)) = ((replF n (doF r ((a : Int), (b : Int), (c : Int), p, q, s)).1 (tail.take m)).1, (replF n (doF r ((a : Int), (b : Int), (c : Int), p, q, s)).1 (tail.take m)).2 + 1) := by
                rw [List.take_succ_cons, replF, hs]
              rw [hre]
              exact ⟨by rw [f1], f2, f3, by simp only; omega, by simp only; omega⟩
          · rw [Prod.mk.injEq] at hrun; exact absurd hrun.1.symm he
theorem foldl_min_le (l : List Int) : ∀ a : Int, l.foldl min a ≤ a ∧ ∀ x ∈ l, l.foldl min a ≤ x := by
  induction l with
  | nil => exact fun a => ⟨Int.le_refl _, fun x hx => absurd hx List.not_mem_nil⟩
  | cons y l ih =>
    intro a
    rw [List.foldl_cons]
    obtain ⟨h1, h2⟩ := ih (min a y)
    refine ⟨by omega, fun x hx => ?_⟩
    rcases List.mem_cons.1 hx with rfl | hx
    · omega
    · exact h2 x hx
theorem minL_le {l : List Int} {v : Nat} (hv : v < l.length) : minL l ≤ nth l v := by
  unfold minL
  cases l with
  | nil => simp at hv
  | cons y l =>
    obtain ⟨h1, h2⟩ := foldl_min_le l (nth (y :: l) 0)
    rw [List.tail_cons]
    cases v with
    | zero => exact h1
    | succ v =>
      have hv' : v < l.length := by simpa using hv
      have e : nth (y :: l) (v + 1) = l[v] := by simp [nth, hv']
      rw [e]
      exact h2 _ (List.getElem_mem hv')
theorem begin_keeps {n : Nat} {es : List (Int × Int)} (h : RightG n es) (h3 : ¬ (0 < (n : Int) ∧ minL (degF n es es.length) < 3)) : RstD n (beginF n es) := by
  have hb := begin_ok h
  refine ⟨hb, fun v hv _ => ?_, fun v hv _ hm => ?_⟩
  · have e := degF_begin h hv
    have := minL_le (l := degF n es es.length) (v := v) (by rw [degF_len]; exact hv)
    omega
  · have : nth (List.replicate n (0 : Int)) v = 1 := hm
    unfold nth at this
    simp [hv] at this
theorem keeps_law {n : Nat} {es : List (Int × Int)} (h : RightG n es) (he : (runG n es).1 ≠ 0 ∧ (runG n es).1 ≠ 2 ∧ (runG n es).1 ≠ 3 ∧ (runG n es).1 ≠ 5) {m : Nat} (hm : m ≤ (runG n es).2.length) :
    (replF n (beginF n es) ((runG n es).2.take m)).2 = m ∧ RstD n (replF n (beginF n es) ((runG n es).2.take m)).1 ∧ 4 ≤ (replF n (beginF n es) ((runG n es).2.take m)).1.count ∧ (n : Int) - 2 * m ≤ (replF n (beginF n es) ((runG n es).2.take m)).1.count ∧ (replF n (beginF n es) ((runG n es).2.take m)).1.count ≤ (n : Int) - m := by
  by_cases h4 : n < 4
  · have : runG n es = (2, []) := by unfold runG; rw [if_pos h4]
    rw [this] at he; exact absurd rfl he.2.1
  by_cases h3 : 0 < (n : Int) ∧ minL (degF n es es.length) < 3
  · have : runG n es = (3, []) := by unfold runG; rw [if_neg h4, if_pos h3]
    rw [this] at he; exact absurd rfl he.2.2.1
  have e : runG n es = runF (n + 1) (beginF n es) [] := by unfold runG; rw [if_neg h4, if_neg h3]
  have hk := begin_keeps h h3
  obtain ⟨tail, e1, e2⟩ := run_replay (n + 1) (cs := []) hk (by show (4 : Int) ≤ (n : Int); omega) (show runF (n + 1) (beginF n es) [] = ((runG n es).1, (runG n es).2) by rw [e]) he.2.2.2
  rw [List.nil_append] at e1
  rw [e1]
  exact e2 m (by rw [← e1]; exact hm)
/-- Who is left, and how he is marked. -/
theorem left_marks (r : Rst) : ∀ i, (leftF r i).length = (marksF r i).length ∧ ∀ j, j < (leftF r i).length → ∃ v : Nat, v < i ∧ nth (leftF r i) j = v ∧ nthB r.gone v = false ∧ nth (marksF r i) j = nth r.mark v
  | 0 => ⟨rfl, fun j hj => absurd hj (Nat.not_lt_zero _)⟩
  | i + 1 => by
    obtain ⟨h1, h2⟩ := left_marks r i
    rw [leftF, marksF]
    split
    · exact ⟨h1, fun j hj => by obtain ⟨v, g1, g2⟩ := h2 j hj; exact ⟨v, by omega, g2⟩⟩
    · next hg =>
      refine ⟨by rw [List.length_append, List.length_append, h1]; rfl, fun j hj => ?_⟩
      rw [List.length_append] at hj
      simp only [List.length_cons, List.length_nil] at hj
      by_cases hl : j < (leftF r i).length
      · obtain ⟨v, g1, g2, g3, g4⟩ := h2 j hl
        refine ⟨v, by omega, ?_, g3, ?_⟩
        · rw [← g2]; unfold nth; rw [List.getD_eq_getElem?_getD, List.getD_eq_getElem?_getD, List.getElem?_append_left hl]
        · rw [← g4]; simp only [nth, List.getD_eq_getElem?_getD, List.getElem?_append_left (show j < (marksF r i).length by omega)]
      · obtain rfl : j = (leftF r i).length := by omega
        refine ⟨i, by omega, by simp [nth], by cases hb : nthB r.gone i with
          | false => rfl
          | true => exact absurd hb hg, ?_⟩
        rw [h1]; simp [nth]
end Go.Proofs.Ytnmocjhpbobahaa.L
