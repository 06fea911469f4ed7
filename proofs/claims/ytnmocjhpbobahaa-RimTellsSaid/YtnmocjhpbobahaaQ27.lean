/- UR: the code's rows and the document's table say the same. U78: Rest.joins of the document's table. -/
import Derived.Test.YtnmocjhpbobahaaQ17
import Derived.Test.YtnmocjhpbobahaaQ26
import Derived.Test.YtnmocjhpbobahaaQ16
set_option linter.unusedVariables false
set_option linter.unusedSimpArgs false
set_option linter.unnecessarySimpa false
namespace Go.Proofs.Ytnmocjhpbobahaa.L
open Go Go.RowKit
set_option maxRecDepth 100000
theorem nearT_mem (t : Tbl) (v : Nat) : ∀ (i : Nat) (x : Int), x ∈ nearT t v i ↔ ∃ k : Nat, k < i ∧ x = k ∧ nthB t.inn k = true ∧ nthB (nthT t.adj v) k = true
  | 0, x => by simp [nearT]
  | i + 1, x => by
    have ih := nearT_mem t v i x
    rw [nearT]
    split
    · next h =>
      rw [List.mem_append, List.mem_singleton, ih]
      constructor
      · rintro (⟨k, h1, h2⟩ | rfl)
        · exact ⟨k, by omega, h2⟩
        · exact ⟨i, by omega, rfl, h⟩
      · rintro ⟨k, h1, h2, h3⟩
        by_cases e : k = i
        · subst e; exact .inr h2
        · exact .inl ⟨k, by omega, h2, h3⟩
    · next h =>
      rw [ih]
      constructor
      · rintro ⟨k, h1, h2⟩; exact ⟨k, by omega, h2⟩
      · rintro ⟨k, h1, h2, h3⟩
        by_cases e : k = i
        · subst e; exact absurd h3 h
        · exact ⟨k, by omega, h2, h3⟩
theorem nearT_rise (t : Tbl) (v : Nat) : ∀ i, (nearT t v i).Pairwise (· < ·)
  | 0 => List.Pairwise.nil
  | i + 1 => by
    have ih := nearT_rise t v i
    rw [nearT]
    split
    · rw [List.pairwise_append]
      refine ⟨ih, List.pairwise_singleton _ _, fun a ha b hb => ?_⟩
      rw [List.mem_singleton] at hb
      obtain ⟨k, h1, h2, _⟩ := (nearT_mem t v i a).1 ha
      omega
    · exact ih
structure Agr (n : Nat) (r : Rst) (t : Tbl) : Prop where
  rst : RstI n r
  tb : TbOk n t
  mark : t.mark = r.mark
  inn : ∀ v, v < n → nthB t.inn v = !(nthB r.gone v)
  adj : ∀ v, v < n → nthB r.gone v = false → ∀ x : Nat, x < n → ((x : Int) ∈ nthR r.near v ↔ nthB t.inn x = true ∧ nthB (nthT t.adj v) x = true)
theorem Agr.near {n : Nat} {r : Rst} {t : Tbl} (h : Agr n r t) {v : Nat} (hv : v < n) (hg : nthB r.gone v = false) : nearT t v n = nthR r.near v := by
  refine rise_ext (nearT_rise t v n) (h.rst.rise v hv) fun x => ?_
  rw [nearT_mem]
  constructor
  · rintro ⟨k, h1, rfl, h2⟩; exact (h.adj v hv hg k h1).2 h2
  · intro hx
    have hr := h.rst.rng v hv x hx
    obtain ⟨k, rfl⟩ : ∃ k : Nat, x = (k : Int) := ⟨x.toNat, by omega⟩
    exact ⟨k, by omega, rfl, (h.adj v hv hg k (by omega)).1 hx⟩
theorem Agr.cnt_at {n : Nat} {r : Rst} {t : Tbl} (h : Agr n r t) : ∀ i, i ≤ n → cntT t i = leftN r.gone i
  | 0, _ => rfl
  | i + 1, hi => by
    have ih := h.cnt_at i (by omega)
    have hb := h.inn i (by omega)
    rw [cntT, leftN, hb]
    cases nthB r.gone i with
    | true => simpa using ih
    | false => simp [ih]
theorem Agr.count {n : Nat} {r : Rst} {t : Tbl} (h : Agr n r t) : cntT t n = r.count := by
  rw [h.cnt_at n (Nat.le_refl _), h.rst.cnt]
theorem Agr.inner {n : Nat} {r : Rst} {t : Tbl} (h : Agr n r t) {v : Nat} (hv : v < n) (hg : nthB r.gone v = false) : innT t v = innB r v := by
  unfold innT innB
  rw [h.tb.inn, h.near hv hg, h.mark]
theorem Agr.mks {n : Nat} {r : Rst} {t : Tbl} (h : Agr n r t) (m : Int) : ∀ i, i ≤ n → mkT t m i = cntM r m i
  | 0, _ => rfl
  | i + 1, hi => by
    have ih := h.mks m i (by omega)
    have hb := h.inn i (by omega)
    rw [mkT, cntM, hb, h.mark]
    cases nthB r.gone i with
    | true => simpa using ih
    | false => simp [ih]
theorem Agr.left {n : Nat} {r : Rst} {t : Tbl} (h : Agr n r t) : ∀ i, i ≤ n → leftT t i = leftF r i ∧ marksT t i = marksF r i
  | 0, _ => ⟨rfl, rfl⟩
  | i + 1, hi => by
    obtain ⟨h1, h2⟩ := h.left i (by omega)
    have hb := h.inn i (by omega)
    rw [leftT, leftF, marksT, marksF, hb, h.mark]
    cases nthB r.gone i with
    | true => simpa using ⟨h1, h2⟩
    | false => simp [h1, h2]
end Go.Proofs.Ytnmocjhpbobahaa.L
namespace Go.Proofs.Ytnmocjhpbobahaa.L
open Go Go.RowKit
set_option maxRecDepth 100000
set_option maxHeartbeats 4000000
def Tbl.join (t : Tbl) (a b : Nat) : Tbl := ⟨t.inn, (t.adj.set a ((nthT t.adj a).set b true)).set b ((nthT (t.adj.set a ((nthT t.adj a).set b true)) b).set a true), t.mark⟩
theorem wJoinT (n : Nat) (t : Tbl) (ht : TbOk n t) (hn : n ≤ 1000000) (a b : Nat) (ha : a < n) (hb : b < n) (hab : a ≠ b) : ∃ c, Try.f78.body = some c ∧ RP (regOf Try.prog env0 (24 + zeroN) u78) c (argsSt 0 [one (.c (tbO t)), iv a, iv b]) (endsAsL Try.prog Try.f78 (tbO t) (lentSV (tbO (t.join a b)) (resSV []))) := by
  refine ⟨_, rfl, ?_⟩
  generalize hQ : endsAsL Try.prog Try.f78 (tbO t) (lentSV (tbO (t.join a b)) (resSV [])) = Q
  simp only [argsSt]
  have c2 := ht.adj
  have c3 := ht.row a ha
  have c4 := ht.row b hb
  have a1 : a < t.adj.length := by omega
  have b1 : b < (nthT t.adj a).length := by omega
  have e1 : nthT (t.adj.set a ((nthT t.adj a).set b true)) b = nthT t.adj b := by rw [nthT_set a1, if_neg hab]
  have b2 : b < (t.adj.set a ((nthT t.adj a).set b true)).length := by rw [List.length_set]; omega
  have a2 : a < (nthT (t.adj.set a ((nthT t.adj a).set b true)) b).length := by rw [e1]; omega
  refine go ?_
  show Q .normal _
  refine finL_norm hQ rfl rfl rfl
@[simp] theorem lentT_own {b : Tbl} : (lentSV (tbO b) (resSV [])).ownAll = true := by
  simp [SV.ownAll, SC.ownAll]
@[simp] theorem lendEff_tb {t s : Nat} {p : List Nat} {v : SV Unit} {a b : Tbl} : lendEff t s p (tbO a) v (lentSV (tbO b) (resSV [])) = some ⟨[(s, v.setP p (tbO b)), (t, resSV [])], (t, []) :: (s, p ++ [0]) :: (s, p ++ [1]) :: (s, p ++ [2]) :: [], []⟩ := rfl
@[simp] theorem lentT1_cs {y x : Cell Unit} : (lentSV y ⟨.one, [.c x]⟩).cs = [.c y, .c x] := rfl
@[simp] theorem lentT1_own {b : Tbl} {x : Value} : (lentSV (tbO b) ⟨.one, [.c (.sc x)]⟩).ownAll = true := by
  simp [SV.ownAll, SC.ownAll]
@[simp] theorem lendEff_tb1 {t s : Nat} {p : List Nat} {v : SV Unit} {a b : Tbl} {x : Value} : lendEff t s p (tbO a) v (lentSV (tbO b) ⟨.one, [.c (.sc x)]⟩) = some ⟨[(s, v.setP p (tbO b)), (t, ⟨.one, [.c (.sc x)]⟩)], (t, []) :: (s, p ++ [0]) :: (s, p ++ [1]) :: (s, p ++ [2]) :: [], []⟩ := rfl
theorem asTbO_fro {l : List (Cell Unit)} : asTbO (⟨.one, [.c (.bx false () l)]⟩ : SV Unit) = none := by unfold asTbO; split <;> simp_all
def JoinT (t : Tbl) (a b : Nat) : Prop := ∃ n : Nat, TbOk n t ∧ n ≤ 1000000 ∧ a < n ∧ b < n ∧ a ≠ b
noncomputable def specJoinT : Spec := fun us => match us with
  | [x, y, z] => match asTbO x, asInt y, asInt z with
    | some t, some a, some b => whenC (0 ≤ a ∧ 0 ≤ b ∧ JoinT t a.toNat b.toNat) (lentSV (tbO (t.join a.toNat b.toNat)) (resSV []))
    | _, _, _ => none
  | _ => none
theorem okJoinT : SpecOk 78 specJoinT := by
  intro us R h
  unfold specJoinT at h
  split at h
  · split at h
    · next x y z _ t a b h1 h2 h3 =>
      obtain ⟨⟨ha, hb, n, ht, hn, han, hbn, hab⟩, rfl⟩ := whenC_eq h
      rw [asTbO_eq h1, asInt_eq h2, asInt_eq h3]
      have hw := wJoinT n t ht hn a.toNat b.toNat han hbn hab
      rw [show (a.toNat : Int) = a by omega, show (b.toNat : Int) = b by omega] at hw
      show GoodE Try.prog 78 [one (.c (tbO t)), iv a, iv b] _
      unfold GoodE
      exact goodBy2L env0_ok Try.func78 rfl (Nat.le_of_ble_eq_true rfl) (by decide) hw
    · cases h
  · cases h
@[simp] theorem sJoinT {t : Tbl} {a b : Nat} (h : JoinT t a b) : specJoinT [⟨.one, [.c (tbO t)]⟩, iv a, iv b] = some (lentSV (tbO (t.join a b)) (resSV [])) := by
  unfold specJoinT
  simp only [asTbO_tb, asInt_iv]
  exact whenC_pos _ ⟨by omega, by omega, h⟩
@[simp] theorem sJoinTF {l : List (Cell Unit)} {y z : SV Unit} : specJoinT [⟨.one, [.c (.bx false () l)]⟩, y, z] = none := by
  unfold specJoinT
  simp only [asTbO_fro]
@[simp] theorem callJoinT {E : Env} {σ : St Unit} {t : Nat} {l : List Operand} : effCall Try.prog E ΩU σ t 78 l = callO E 78 t (argsOf Try.prog ΩU σ [70, 3, 3] l) := eff_call Try.func78 Try.params78
@[simp] theorem lendJoinT {E : Env} {σ : St Unit} {t s : Nat} {l : List Operand} : effLend Try.prog E ΩU σ t 78 (.tmp s :: l) = lendO E σ t s 78 [3, 3] l := eff_lend Try.func78 Try.params78
/-- Who is whose neighbour behind a join. -/
theorem join_at {n : Nat} {t : Tbl} (ht : TbOk n t) {a b : Nat} (ha : a < n) (hb : b < n) (hab : a ≠ b) (v x : Nat) (hv : v < n) (hx : x < n) : nthB (nthT (t.join a b).adj v) x = if (v = a ∧ x = b) ∨ (v = b ∧ x = a) then true else nthB (nthT t.adj v) x := by
  have nb : ∀ (l : List Bool) (i j : Nat) (c : Bool), i < l.length → nthB (l.set i c) j = if i = j then c else nthB l j := by
    intro l i j c hi
    unfold nthB
    simp only [List.getD_eq_getElem?_getD, List.getElem?_set]
    split
    · next h => subst h; simp [hi]
    · rfl
  have c2 := ht.adj
  have c3 := ht.row a ha
  have c4 := ht.row b hb
  unfold Tbl.join
  simp only
  rw [nthT_set (by rw [List.length_set]; omega), nthT_set (by omega), nthT_set (by omega), if_neg hab]
  by_cases h1 : b = v
  · subst h1
    rw [if_pos rfl, nb _ _ _ _ (by omega)]
    by_cases h2 : a = x
    · subst h2; rw [if_pos rfl, if_pos (.inr ⟨rfl, rfl⟩)]
    · rw [if_neg h2, if_neg (by rintro (⟨e, _⟩ | ⟨_, e⟩); exact hab e.symm; exact h2 e.symm)]
  · rw [if_neg h1]
    by_cases h3 : a = v
    · subst h3
      rw [if_pos rfl, nb _ _ _ _ (by omega)]
      by_cases h2 : b = x
      · subst h2; rw [if_pos rfl, if_pos (.inl ⟨rfl, rfl⟩)]
      · rw [if_neg h2, if_neg (by rintro (⟨_, e⟩ | ⟨e, _⟩); exact h2 e.symm; exact hab e)]
    · rw [if_neg h3, if_neg (by rintro (⟨e, _⟩ | ⟨e, _⟩); exact h3 e.symm; exact h1 e.symm)]
theorem TbOk.join {n : Nat} {t : Tbl} (ht : TbOk n t) {a b : Nat} (ha : a < n) (hb : b < n) : TbOk n (t.join a b) := by
  have c2 := ht.adj
  refine ⟨ht.inn, by unfold Tbl.join; simp only [List.length_set]; exact c2, fun v hv => ?_, ht.mark⟩
  unfold Tbl.join
  simp only
  rw [nthT_set (by rw [List.length_set]; omega), nthT_set (by omega), nthT_set (by omega)]
  have r1 := ht.row a ha
  have r2 := ht.row b hb
  have r3 := ht.row v hv
  split
  · rw [List.length_set]; split
    · rw [List.length_set]; exact r1
    · exact r2
  · split
    · rw [List.length_set]; exact r1
    · exact r3
end Go.Proofs.Ytnmocjhpbobahaa.L
