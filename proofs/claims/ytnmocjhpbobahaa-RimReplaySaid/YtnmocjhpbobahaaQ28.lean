/- U47: Rest.Is of the document's table. -/
import Derived.Test.YtnmocjhpbobahaaQ26
import Derived.Test.YtnmocjhpbobahaaQ27
set_option linter.unusedVariables false
set_option linter.unusedSimpArgs false
set_option linter.unnecessarySimpa false
namespace Go.Proofs.Ytnmocjhpbobahaa.L
open Go Go.RowKit
set_option maxRecDepth 100000
set_option maxHeartbeats 4000000
attribute [local simp] bT bF
def d47 : List (Nat × List Nat) := [(0, []), (0, [14]), (0, [15]), (0, [16]), (17, []), (17, [18]), (17, []), (17, [20]), (17, [21, 19]), (0, [22, 17]), (0, [23]), (24, []), (24, [25]), (24, []), (24, [27]), (24, [28, 26]), (0, [29, 24]), (0, [30]), (31, []), (31, [32]), (31, []), (31, [34, 33]), (0, [35, 31]), (0, [36]), (37, []), (37, [38]), (37, [39]), (0, [40, 37]), (0, [41]), (42, []), (42, [43]), (42, [44]), (42, [45]), (42, []), (42, [47]), (42, [48, 46]), (42, [49]), (42, [50]), (0, [51, 42]), (0, [52]), (53, []), (53, [54]), (53, [55]), (53, [56]), (53, []), (53, [58]), (53, [59, 57]), (53, [60]), (53, [61]), (0, [62, 53]), (0, [63]), (64, []), (64, [65]), (64, [66]), (64, [67]), (64, []), (64, [69]), (64, [70, 68]), (64, [71]), (64, [72]), (0, [73, 64]), (0, [74]), (75, []), (75, [76]), (75, [77]), (75, [78]), (75, []), (75, [80]), (75, [81, 79]), (75, [82]), (75, []), (75, [84]), (75, [85, 83]), (75, [86]), (75, [87]), (0, [88, 75]), (0, [89]), (90, []), (90, [91]), (90, [92]), (90, [93]), (90, []), (90, [95]), (90, [96, 94]), (90, [97]), (90, []), (90, [99]), (90, [100, 98]), (90, [101]), (90, [102]), (0, [103, 90]), (0, [104]), (105, []), (105, [106]), (105, [107]), (105, [108]), (105, []), (105, [110]), (105, [111, 109]), (105, [112]), (105, []), (105, [114]), (105, [115, 113]), (105, [116]), (105, [117]), (0, [118, 105])]
attribute [local simp] d47
@[simp] theorem sOutT3 {t : Tbl} {v : Nat} {x y z : Int} (h : TbHas t v) : specOutT [⟨.one, [.c (tbF t)]⟩, iv v, ⟨.one, [.c (.sl false 1 () (il3 x y z))]⟩] = some (iv (outT t v [x, y, z])) := sOutT (l := [x, y, z]) h (by simp)
noncomputable abbrev EIs : Env := ext (ext (ext env0 58 specCountT) 59 specNearT) 57 specOutT
theorem isK_no {t : Tbl} {e : Cu} (h : ¬ okT t.inn.length e) : isK t e = false := by unfold isK; rw [decide_eq_false h]; rfl
theorem isK_tri {t : Tbl} {a b c : Nat} {p q s : Int} (h : triT t a b c = false) : isK t ((a : Int), (b : Int), (c : Int), p, q, s) = false := by
  unfold isK hitT
  simp only [Int.toNat_natCast]
  rw [h, Bool.false_and, Bool.false_and, Bool.and_false]
theorem isK_val {t : Tbl} {a b c : Nat} {p q s : Int} (hab : a < b) (hbc : b < c) (hc : c < t.inn.length) (h : triT t a b c = true) : isK t ((a : Int), (b : Int), (c : Int), p, q, s) = true ↔ 2 ≤ thrT t a + thrT t b + thrT t c ∧ p = outT t a [(a : Int), b, c] ∧ q = outT t b [(a : Int), b, c] ∧ s = outT t c [(a : Int), b, c] := by
  rw [isK_iff hab hbc hc]
  unfold hitT cutT
  rw [h, Bool.true_and, decide_eq_true_eq]
  simp only [Prod.mk.injEq, true_and]
theorem isK_val_no {t : Tbl} {a b c : Nat} {p q s : Int} (hab : a < b) (hbc : b < c) (hc : c < t.inn.length) (h : triT t a b c = true) (hn : ¬ (2 ≤ thrT t a + thrT t b + thrT t c ∧ p = outT t a [(a : Int), b, c] ∧ q = outT t b [(a : Int), b, c] ∧ s = outT t c [(a : Int), b, c])) : isK t ((a : Int), (b : Int), (c : Int), p, q, s) = false := by
  cases hh : isK t ((a : Int), (b : Int), (c : Int), p, q, s) with
  | false => rfl
  | true => exact absurd ((isK_val hab hbc hc h).1 hh) hn
theorem thrT_le (t : Tbl) (v : Nat) : 0 ≤ thrT t v ∧ thrT t v ≤ 1 := by unfold thrT; split <;> omega
abbrev cuBx (a b c : Nat) (p q s : Int) : SV Unit := ⟨.one, [.c (.bx true () [.sc (.int .i64 a), .sc (.int .i64 b), .sc (.int .i64 c), .sc (.int .i64 p), .sc (.int .i64 q), .sc (.int .i64 s)])]⟩
abbrev isS (t : Tbl) (a b c : Nat) (p q s : Int) (k i : Int) : St Unit := [(0, tbf t), (3, cuBx a b c p q s), (6, ⟨.one, [.c (.sl true 1 () (il3 a b c))]⟩), (7, iv k), (8, iv i)]
theorem wIs0 (t : Tbl) (ht : TbGood t) (A B C P Q' S : Int) (hno : ¬ okT t.inn.length (A, B, C, P, Q', S)) : ∃ k, Try.f47.body = some k ∧ RP (regOf Try.prog EIs 173 u47) k (argsSt 0 [tbf t, cu6 (A, B, C, P, Q', S)]) (endsAs Try.prog Try.f47 (bv (isK t (A, B, C, P, Q', S)))) := by
  refine ⟨_, rfl, ?_⟩
  generalize hQ : endsAs Try.prog Try.f47 (bv (isK t (A, B, C, P, Q', S))) = Q
  simp only [argsSt]
  rw [isK_no hno] at hQ
  unfold okT at hno
  simp only at hno
  by_cases h1 : A < 0
  · (show RP _ (.seq (.region _ _ false) _) _ _; refine gs ?_)
    (show RP _ (.seq (.region _ _ false) _) _ _; refine gs ?_)
    apply rp_seq
    (show RP _ (.seq (.region _ _ true) _) _ _; refine gH d47 ?_)
    refine go ?_
    show Q .ret _; refine fin_ret hQ rfl ?_
    rfl
  by_cases h2 : B ≤ A
  · (show RP _ (.seq (.region _ _ false) _) _ _; refine gs ?_)
    (show RP _ (.seq (.region _ _ false) _) _ _; refine gs ?_)
    apply rp_seq
    (show RP _ (.seq (.region _ _ true) _) _ _; refine gH d47 ?_)
    refine go ?_
    show Q .ret _; refine fin_ret hQ rfl ?_
    rfl
  by_cases h3 : C ≤ B
  · (show RP _ (.seq (.region _ _ false) _) _ _; refine gs ?_)
    (show RP _ (.seq (.region _ _ false) _) _ _; refine gs ?_)
    apply rp_seq
    (show RP _ (.seq (.region _ _ true) _) _ _; refine gH d47 ?_)
    refine go ?_
    show Q .ret _; refine fin_ret hQ rfl ?_
    rfl
  have h4 : (t.inn.length : Int) ≤ C := by omega
  (show RP _ (.seq (.region _ _ false) _) _ _; refine gs ?_)
  (show RP _ (.seq (.region _ _ false) _) _ _; refine gs ?_)
  apply rp_seq
  (show RP _ (.seq (.region _ _ true) _) _ _; refine gH d47 ?_)
  refine go ?_
  show Q .ret _; refine fin_ret hQ rfl ?_
  rfl
theorem wIs1 (t : Tbl) (ht : TbGood t) (a b c : Nat) (P Q' S : Int) (hab : a < b) (hbc : b < c) (hc : c < t.inn.length) (htri : triT t a b c = false) : ∃ k, Try.f47.body = some k ∧ RP (regOf Try.prog EIs 173 u47) k (argsSt 0 [tbf t, cu6 ((a : Int), (b : Int), (c : Int), P, Q', S)]) (endsAs Try.prog Try.f47 (bv (isK t ((a : Int), (b : Int), (c : Int), P, Q', S)))) := by
  refine ⟨_, rfl, ?_⟩
  generalize hQ : endsAs Try.prog Try.f47 (bv (isK t ((a : Int), (b : Int), (c : Int), P, Q', S))) = Q
  simp only [argsSt]
  rw [isK_tri htri] at hQ
  have hn0 : ¬ (4 < cntT t t.inn.length ∧ nthB t.inn a = true ∧ nthB t.inn b = true ∧ nthB t.inn c = true ∧ nthB (nthT t.adj a) b = true ∧ nthB (nthT t.adj a) c = true ∧ nthB (nthT t.adj b) c = true) := fun q => by
    rw [triT_iff.2 q] at htri; cases htri
  clear htri
  have g1 := ht.1.adj
  have a1 : a < t.inn.length := by omega
  have b1 : b < t.inn.length := by omega
  have a2 : a < t.adj.length := by omega
  have b2 : b < t.adj.length := by omega
  have r1 := ht.1.row a a1
  have r2 := ht.1.row b b1
  have q1 : b < (nthT t.adj a).length := by omega
  have q2 : c < (nthT t.adj a).length := by omega
  have q3 : c < (nthT t.adj b).length := by omega
  have h1 : ¬ (a : Int) < 0 := by omega
  have h2 : ¬ (b : Int) ≤ a := by omega
  have h3 : ¬ (c : Int) ≤ b := by omega
  have h4 : ¬ (t.inn.length : Int) ≤ c := by omega
  by_cases h5 : cntT t t.inn.length ≤ 4
  · (show RP _ (.seq (.region _ _ false) _) _ _; refine gs ?_)
    (show RP _ (.seq (.region _ _ false) _) _ _; refine gs ?_)
    apply rp_seq
    (show RP _ (.seq (.region _ _ true) _) _ _; refine gH d47 ?_)
    refine go ?_
    show Q .ret _; refine fin_ret hQ rfl ?_
    rfl
  cases h6 : nthB t.inn a with
  | false =>
    (show RP _ (.seq (.region _ _ false) _) _ _; refine gs ?_)
    (show RP _ (.seq (.region _ _ false) _) _ _; refine gs ?_)
    apply rp_seq
    (show RP _ (.seq (.region _ _ true) _) _ _; refine gH d47 ?_)
    refine go ?_
    show Q .ret _; refine fin_ret hQ rfl ?_
    rfl
  | true =>
  cases h7 : nthB t.inn b with
  | false =>
    (show RP _ (.seq (.region _ _ false) _) _ _; refine gs ?_)
    (show RP _ (.seq (.region _ _ false) _) _ _; refine gs ?_)
    apply rp_seq
    (show RP _ (.seq (.region _ _ true) _) _ _; refine gH d47 ?_)
    refine go ?_
    show Q .ret _; refine fin_ret hQ rfl ?_
    rfl
  | true =>
  cases h8 : nthB t.inn c with
  | false =>
    (show RP _ (.seq (.region _ _ false) _) _ _; refine gs ?_)
    (show RP _ (.seq (.region _ _ false) _) _ _; refine gs ?_)
    apply rp_seq
    (show RP _ (.seq (.region _ _ true) _) _ _; refine gH d47 ?_)
    refine go ?_
    show Q .ret _; refine fin_ret hQ rfl ?_
    rfl
  | true =>
  cases h9 : nthB (nthT t.adj a) b with
  | false =>
    (show RP _ (.seq (.region _ _ false) _) _ _; refine gs ?_)
    (show RP _ (.seq (.region _ _ false) _) _ _; refine gs ?_)
    apply rp_seq
    (show RP _ (.seq (.region _ _ true) _) _ _; refine gH d47 ?_)
    refine go ?_
    show Q .ret _; refine fin_ret hQ rfl ?_
    rfl
  | true =>
  cases h10 : nthB (nthT t.adj a) c with
  | false =>
    (show RP _ (.seq (.region _ _ false) _) _ _; refine gs ?_)
    (show RP _ (.seq (.region _ _ false) _) _ _; refine gs ?_)
    apply rp_seq
    (show RP _ (.seq (.region _ _ true) _) _ _; refine gH d47 ?_)
    refine go ?_
    show Q .ret _; refine fin_ret hQ rfl ?_
    rfl
  | true =>
  cases h11 : nthB (nthT t.adj b) c with
  | false =>
    (show RP _ (.seq (.region _ _ false) _) _ _; refine gs ?_)
    (show RP _ (.seq (.region _ _ false) _) _ _; refine gs ?_)
    apply rp_seq
    (show RP _ (.seq (.region _ _ true) _) _ _; refine gH d47 ?_)
    refine go ?_
    show Q .ret _; refine fin_ret hQ rfl ?_
    rfl
  | true => exact absurd ⟨by omega, h6, h7, h8, h9, h10, h11⟩ hn0
theorem wIs2 (t : Tbl) (ht : TbGood t) (a b c : Nat) (P Q' S : Int) (hab : a < b) (hbc : b < c) (hc : c < t.inn.length) (htri : triT t a b c = true) : ∃ k, Try.f47.body = some k ∧ RP (regOf Try.prog EIs 173 u47) k (argsSt 0 [tbf t, cu6 ((a : Int), (b : Int), (c : Int), P, Q', S)]) (endsAs Try.prog Try.f47 (bv (isK t ((a : Int), (b : Int), (c : Int), P, Q', S)))) := by
  refine ⟨_, rfl, ?_⟩
  generalize hQ : endsAs Try.prog Try.f47 (bv (isK t ((a : Int), (b : Int), (c : Int), P, Q', S))) = Q
  simp only [argsSt]
  have kv := isK_val (p := P) (q := Q') (s := S) hab hbc hc htri
  have kn := isK_val_no (p := P) (q := Q') (s := S) hab hbc hc htri
  obtain ⟨h5, h6, h7, h8, h9, h10, h11⟩ := triT_iff.1 htri
  clear htri
  have g1 := ht.1.adj
  have a1 : a < t.inn.length := by omega
  have b1 : b < t.inn.length := by omega
  have a2 : a < t.adj.length := by omega
  have b2 : b < t.adj.length := by omega
  have r1 := ht.1.row a a1
  have r2 := ht.1.row b b1
  have q1 : b < (nthT t.adj a).length := by omega
  have q2 : c < (nthT t.adj a).length := by omega
  have q3 : c < (nthT t.adj b).length := by omega
  have ka : TbHas t a := ⟨_, ht.1, ht.2, a1⟩
  have kb : TbHas t b := ⟨_, ht.1, ht.2, b1⟩
  have kc : TbHas t c := ⟨_, ht.1, ht.2, hc⟩
  have h1 : ¬ (a : Int) < 0 := by omega
  have h2 : ¬ (b : Int) ≤ a := by omega
  have h3 : ¬ (c : Int) ≤ b := by omega
  have h4 : ¬ (t.inn.length : Int) ≤ c := by omega
  have h5' : ¬ cntT t t.inn.length ≤ 4 := by omega
  have la := nearT_le t a t.inn.length
  have lb := nearT_le t b t.inn.length
  have lc := nearT_le t c t.inn.length
  have ta := thrT_le t a
  have tb := thrT_le t b
  have tc := thrT_le t c
  have hl := ht.2
  (show RP _ (.seq (.region _ _ false) _) _ _; refine gs ?_)
  (show RP _ (.seq (.region _ _ false) _) _ _; refine gs ?_)
  apply rp_seq
  (show RP _ (.seq (.region _ _ true) _) _ _; refine gH d47 ?_)
  refine go ?_
  apply rp_loop (fun k σ => (k = 3 ∧ σ = isS t a b c P Q' S 0 0) ∨ (k = 2 ∧ σ = isS t a b c P Q' S (thrT t a) 1) ∨ (k = 1 ∧ σ = isS t a b c P Q' S (thrT t a + thrT t b) 2) ∨ (k = 0 ∧ σ = isS t a b c P Q' S (thrT t a + thrT t b + thrT t c) 3)) 3
  · exact .inl ⟨rfl, rfl⟩
  rintro k σ (⟨rfl, rfl⟩ | ⟨rfl, rfl⟩ | ⟨rfl, rfl⟩ | ⟨rfl, rfl⟩)
  · by_cases h : (nearT t a t.inn.length).length = 3
    · rw [show thrT t a = 1 by unfold thrT; rw [if_pos h]]
      refine go ?_
      exact nxt 2 (by omega) (.inr (.inl ⟨rfl, rfl⟩))
    · rw [show thrT t a = 0 by unfold thrT; rw [if_neg h]]
      refine go ?_
      exact nxt 2 (by omega) (.inr (.inl ⟨rfl, rfl⟩))
  · by_cases h : (nearT t b t.inn.length).length = 3
    · rw [show thrT t b = 1 by unfold thrT; rw [if_pos h]]
      refine go ?_
      exact nxt 1 (by omega) (.inr (.inr (.inl ⟨rfl, rfl⟩)))
    · rw [show thrT t b = 0 by unfold thrT; rw [if_neg h], Int.add_zero]
      refine go ?_
      exact nxt 1 (by omega) (.inr (.inr (.inl ⟨rfl, rfl⟩)))
  · by_cases h : (nearT t c t.inn.length).length = 3
    · rw [show thrT t c = 1 by unfold thrT; rw [if_pos h]]
      refine go ?_
      exact nxt 0 (by omega) (.inr (.inr (.inr ⟨rfl, rfl⟩)))
    · rw [show thrT t c = 0 by unfold thrT; rw [if_neg h], Int.add_zero]
      refine go ?_
      exact nxt 0 (by omega) (.inr (.inr (.inr ⟨rfl, rfl⟩)))
  by_cases m1 : 2 ≤ thrT t a + thrT t b + thrT t c
  case neg =>
    rw [kn (fun q => m1 q.1)] at hQ
    refine go ?_
    show Q .ret _; refine fin_ret hQ rfl ?_
    rfl
  by_cases m2 : P = outT t a [(a : Int), b, c]
  case neg =>
    rw [kn (fun q => m2 q.2.1)] at hQ
    refine go ?_
    show Q .ret _; refine fin_ret hQ rfl ?_
    rfl
  by_cases m3 : Q' = outT t b [(a : Int), b, c]
  case neg =>
    rw [kn (fun q => m3 q.2.2.1)] at hQ
    refine go ?_
    show Q .ret _; refine fin_ret hQ rfl ?_
    rfl
  by_cases m4 : S = outT t c [(a : Int), b, c]
  case neg =>
    rw [kn (fun q => m4 q.2.2.2)] at hQ
    refine go ?_
    show Q .ret _; refine fin_ret hQ rfl ?_
    rfl
  rw [kv.2 ⟨m1, m2, m3, m4⟩] at hQ
  refine go ?_
  show Q .ret _; refine fin_ret hQ rfl ?_
  rfl
theorem EIs_ok : EnvOk Try.prog EIs := ext_ok (ext_ok (ext_ok env0_ok okCountT) okNearT) okOutT
noncomputable def specIs : Spec := fun us => match us with
  | [x, y] => match asTb x, asCu y with
    | some t, some e => whenC (TbGood t) (bv (isK t e))
    | _, _ => none
  | _ => none
theorem wIs (t : Tbl) (ht : TbGood t) (e : Cu) : ∃ k, Try.f47.body = some k ∧ RP (regOf Try.prog EIs 173 u47) k (argsSt 0 [tbf t, cu6 e]) (endsAs Try.prog Try.f47 (bv (isK t e))) := by
  obtain ⟨A, B, C, P, Q', S⟩ := e
  by_cases h : okT t.inn.length (A, B, C, P, Q', S)
  · unfold okT at h
    simp only at h
    obtain ⟨a, rfl⟩ : ∃ a : Nat, A = (a : Int) := ⟨A.toNat, by omega⟩
    obtain ⟨b, rfl⟩ : ∃ b : Nat, B = (b : Int) := ⟨B.toNat, by omega⟩
    obtain ⟨c, rfl⟩ : ∃ c : Nat, C = (c : Int) := ⟨C.toNat, by omega⟩
    cases hk : triT t a b c with
    | false => exact wIs1 t ht a b c P Q' S (by omega) (by omega) (by omega) hk
    | true => exact wIs2 t ht a b c P Q' S (by omega) (by omega) (by omega) hk
  · exact wIs0 t ht A B C P Q' S h
theorem okIs : SpecOk 47 specIs := by
  intro us R h
  unfold specIs at h
  split at h
  · split at h
    · next x y _ t e h1 h2 =>
      obtain ⟨h3, rfl⟩ := whenC_eq h
      rw [asTb_eq h1, asCu_eq h2]
      exact goodBy2 EIs_ok Try.func47 rfl (Nat.le_of_ble_eq_true rfl) (by decide) (wIs t h3 e)
    · cases h
  · cases h
@[simp] theorem sIs {t : Tbl} {a b c p q s : Int} (h : TbGood t) : specIs [⟨.one, [.c (tbF t)]⟩, ⟨.agg, [.c (.sc (.int .i64 a)), .c (.sc (.int .i64 b)), .c (.sc (.int .i64 c)), .c (.sc (.int .i64 p)), .c (.sc (.int .i64 q)), .c (.sc (.int .i64 s))]⟩] = some (bv (isK t (a, b, c, p, q, s))) := by
  unfold specIs
  simp only [asTb_tb]
  exact whenC_pos _ h
@[simp] theorem callIs {E : Env} {σ : St Unit} {t : Nat} {l : List Operand} : effCall Try.prog E ΩU σ t 47 l = callO E 47 t (argsOf Try.prog ΩU σ [70, 62] l) := eff_call Try.func47 Try.params47
end Go.Proofs.Ytnmocjhpbobahaa.L
