/- U57: Rest.out of the document's table. UO: outer neighbours agree with the document's table. UI: which cuts there are, by the document's table, as the code has it; the least of them. -/
import Derived.Test.YtnmocjhpbobahaaQ13
import Derived.Test.YtnmocjhpbobahaaQ23
import Derived.Test.YtnmocjhpbobahaaQ25
import Derived.Test.YtnmocjhpbobahaaQ20
set_option linter.unusedVariables false
set_option linter.unusedSimpArgs false
set_option linter.unnecessarySimpa false
namespace Go.Proofs.Ytnmocjhpbobahaa.L
open Go Go.RowKit
set_option maxRecDepth 100000
set_option maxHeartbeats 4000000
def notIn (l : List Int) (x : Int) : Option Int := if l.contains x = true then none else some x
def outT (t : Tbl) (v : Nat) (l : List Int) : Int := if (nearT t v t.inn.length).length = 3 then ((nearT t v t.inn.length).findSome? (notIn l)).getD (-1) else -1
noncomputable abbrev EOutT : Env := ext (ext env0 59 specNearT) 66 spec26
theorem wOutT (n : Nat) (t : Tbl) (ht : TbOk n t) (hn : n ≤ 1000000) (v : Nat) (hv : v < n) (l : List Int) (hl : l.length ≤ 1000) : ∃ c, Try.f57.body = some c ∧ RP (regOf Try.prog EOutT 34 u57) c (argsSt 0 [tbf t, iv v, ints l]) (endsAs Try.prog Try.f57 (iv (outT t v l))) := by
  refine ⟨_, rfl, ?_⟩
  generalize hQ : endsAs Try.prog Try.f57 (iv (outT t v l)) = Q
  simp only [argsSt]
  have hb : TbHas t v := ⟨n, ht, hn, hv⟩
  have hle := nearT_le t v t.inn.length
  have hin := ht.inn
  refine go ?_
  generalize hrow : nearT t v t.inn.length = row at *
  have hlen : row.length ≤ 1000000 := by omega
  by_cases h3 : row.length = 3
  case neg =>
    rw [show outT t v l = -1 by unfold outT; rw [hrow, if_neg h3]] at hQ
    apply rp_loop (fun k σ => k = 0 ∧ σ = [(2, ints l), (7, ow row), (8, iv 0)]) 0
    · exact ⟨rfl, rfl⟩
    rintro k σ ⟨rfl, rfl⟩
    by_cases h0 : 0 < row.length
    · refine go ?_
      show Q .ret _; refine fin_ret hQ rfl ?_
      rfl
    · refine go ?_
      show Q .ret _; refine fin_ret hQ rfl ?_
      rfl
  have e : outT t v l = (row.findSome? (notIn l)).getD (-1) := by unfold outT; rw [hrow, if_pos h3]
  apply rp_loop (fun k σ => ∃ i : Nat, i ≤ 3 ∧ k = 3 - i ∧ (row.take i).findSome? (notIn l) = none ∧ σ = [(2, ints l), (7, ow row), (8, iv i)]) 3
  · exact ⟨0, by omega, by omega, rfl, rfl⟩
  rintro k σ ⟨i, hi, rfl, hno, rfl⟩
  have hl2 : l.length ≤ 2 ^ 59 := by omega
  by_cases hil : i < 3
  · have i1 : i < row.length := by omega
    by_cases hm : nth row i ∈ l
    · have hc : l.contains (nth row i) = true := by simpa using hm
      have hs := fs_step (f := notIn l) i1 hno (by rw [← nth_eq i1]; unfold notIn; rw [hc, if_pos rfl])
      refine go ?_
      exact nxt (3 - (i + 1)) (by omega) ⟨i + 1, by omega, rfl, hs, rfl⟩
    · have hc : l.contains (nth row i) = false := by simpa using hm
      have hs := fs_hit (f := notIn l) (x := nth row i) i1 hno (by rw [← nth_eq i1]; unfold notIn; rw [hc, if_neg Bool.noConfusion])
      rw [e, hs] at hQ
      refine go ?_
      show Q .ret _; refine fin_ret hQ rfl ?_
      rfl
  obtain rfl : i = 3 := by omega
  rw [List.take_of_length_le (by omega)] at hno
  rw [e, hno] at hQ
  refine go ?_
  show Q .ret _; refine fin_ret hQ rfl ?_
  rfl
theorem EOutT_ok : EnvOk Try.prog EOutT := ext_ok (ext_ok env0_ok okNearT) ok26
noncomputable def specOutT : Spec := fun us => match us with
  | [x, y, z] => match asTb x, asInt y, asInts z with
    | some t, some a, some l => whenC (0 ≤ a ∧ TbHas t a.toNat ∧ l.length ≤ 1000) (iv (outT t a.toNat l))
    | _, _, _ => none
  | _ => none
theorem okOutT : SpecOk 57 specOutT := by
  intro us R h
  unfold specOutT at h
  split at h
  · split at h
    · next x y z _ t a l h1 h2 h6 =>
      obtain ⟨⟨h0, ⟨n, h3, h4, h5⟩, h7⟩, rfl⟩ := whenC_eq h
      rw [asTb_eq h1, asInt_eq h2, asInts_eq h6]
      have hw := wOutT n t h3 h4 a.toNat h5 l h7
      rw [show (a.toNat : Int) = a by omega] at hw
      exact goodBy2 EOutT_ok Try.func57 rfl (Nat.le_of_ble_eq_true rfl) (by decide) hw
    · cases h
  · cases h
@[simp] theorem sOutT {t : Tbl} {a : Nat} {l : List Int} (h : TbHas t a) (hl : l.length ≤ 1000) : specOutT [⟨.one, [.c (tbF t)]⟩, iv a, ints l] = some (iv (outT t a l)) := by
  unfold specOutT
  simp only [asTb_tb, asInt_iv, asInts_ints]
  exact whenC_pos _ ⟨by omega, h, hl⟩
@[simp] theorem callOutT {E : Env} {σ : St Unit} {t : Nat} {l : List Operand} : effCall Try.prog E ΩU σ t 57 l = callO E 57 t (argsOf Try.prog ΩU σ [70, 3, 39] l) := eff_call Try.func57 Try.params57
end Go.Proofs.Ytnmocjhpbobahaa.L
namespace Go.Proofs.Ytnmocjhpbobahaa.L
open Go Go.RowKit
set_option maxRecDepth 100000
theorem Agr.out {n : Nat} {r : Rst} {t : Tbl} (h : Agr n r t) {a b c v o1 o2 : Nat} (hv : v < n) (h1 : (o1 : Int) ∈ nthR r.near v) (h2 : (o2 : Int) ∈ nthR r.near v) (hne : o1 ≠ o2) (hs : ∀ x : Int, in3 a b c x = true ↔ x = v ∨ x = o1 ∨ x = o2) : outT t v [(a : Int), b, c] = outV r a b c v := by
  have hg := h.rst.left hv h1
  unfold outT outV
  rw [h.tb.inn, h.near hv hg]
  by_cases hl : (nthR r.near v).length = 3
  · rw [if_pos hl, if_pos hl]
    obtain ⟨y, e1, e2, e3, e4, e5, e6⟩ := out3 (a := a) (b := b) (c := c) hl (h.rst.rise v hv) h1 h2 (h.rst.irr v hv) (by omega) hs
    rw [e1]
    have hy : notIn [(a : Int), b, c] y = some y := by
      unfold notIn
      rw [if_neg]
      intro hc
      have hc' : in3 a b c y = true := by unfold in3; simpa using hc
      rcases (hs y).1 hc' with q | q | q
      · exact e3 q
      · exact e4 q
      · exact e5 q
    cases hf : (nthR r.near v).findSome? (notIn [(a : Int), b, c]) with
    | none =>
      have := List.findSome?_eq_none_iff.1 hf y e2
      rw [hy] at this; cases this
    | some z =>
      obtain ⟨x, hx, hz⟩ := List.exists_of_findSome?_eq_some hf
      unfold notIn at hz
      split at hz
      · cases hz
      · next hc =>
        obtain rfl := Option.some.inj hz
        rcases e6 x hx with q | q | q
        · exact absurd (by have := (hs x).2 (.inr (.inl q)); unfold in3 at this; simpa using this) hc
        · exact absurd (by have := (hs x).2 (.inr (.inr q)); unfold in3 at this; simpa using this) hc
        · rw [q]; rfl
  · rw [if_neg hl, if_neg hl]
end Go.Proofs.Ytnmocjhpbobahaa.L
namespace Go.Proofs.Ytnmocjhpbobahaa.L
open Go Go.RowKit
set_option maxRecDepth 100000
def okT (n : Nat) (e : Cu) : Prop := 0 ≤ e.1 ∧ e.1 < e.2.1 ∧ e.2.1 < e.2.2.1 ∧ e.2.2.1 < n
instance (n : Nat) (e : Cu) : Decidable (okT n e) := by unfold okT; infer_instance
def thrT (t : Tbl) (v : Nat) : Int := if (nearT t v t.inn.length).length = 3 then 1 else 0
def triT (t : Tbl) (a b c : Nat) : Bool := decide (4 < cntT t t.inn.length) && (nthB t.inn a && (nthB t.inn b && (nthB t.inn c && (nthB (nthT t.adj a) b && (nthB (nthT t.adj a) c && nthB (nthT t.adj b) c)))))
def hitT (t : Tbl) (a b c : Nat) : Bool := triT t a b c && decide (2 ≤ thrT t a + thrT t b + thrT t c)
def cutT (t : Tbl) (a b c : Nat) : Cu := ((a : Int), (b : Int), (c : Int), outT t a [(a : Int), b, c], outT t b [(a : Int), b, c], outT t c [(a : Int), b, c])
/-- Is it a cut? -/
def isK (t : Tbl) (e : Cu) : Bool := decide (okT t.inn.length e) && (hitT t e.1.toNat e.2.1.toNat e.2.2.1.toNat && decide (e = cutT t e.1.toNat e.2.1.toNat e.2.2.1.toNat))
theorem triT_iff {t : Tbl} {a b c : Nat} : triT t a b c = true ↔ 4 < cntT t t.inn.length ∧ nthB t.inn a = true ∧ nthB t.inn b = true ∧ nthB t.inn c = true ∧ nthB (nthT t.adj a) b = true ∧ nthB (nthT t.adj a) c = true ∧ nthB (nthT t.adj b) c = true := by
  unfold triT; simp only [Bool.and_eq_true, decide_eq_true_eq]
theorem Agr.in_iff {n : Nat} {r : Rst} {t : Tbl} (h : Agr n r t) {v : Nat} (hv : v < n) : nthB t.inn v = true ↔ nthB r.gone v = false := by
  rw [h.inn v hv]; cases nthB r.gone v <;> simp
theorem Agr.thr {n : Nat} {r : Rst} {t : Tbl} (h : Agr n r t) {v : Nat} (hv : v < n) (hg : nthB r.gone v = false) : thrT t v = isT r v := by
  unfold thrT isT
  rw [h.tb.inn, h.near hv hg]
theorem Agr.tri {n : Nat} {r : Rst} {t : Tbl} (h : Agr n r t) {a b c : Nat} (ha : a < n) (hb : b < n) (hc : c < n) : triT t a b c = true ↔ ¬ (r.count ≤ 4 ∨ (b : Int) ∉ nthR r.near a ∨ (c : Int) ∉ nthR r.near a ∨ (c : Int) ∉ nthR r.near b) := by
  rw [triT_iff, h.tb.inn, h.count]
  constructor
  · rintro ⟨k0, k1, k2, k3, k4, k5, k6⟩
    have ga := (h.in_iff ha).1 k1
    have gb := (h.in_iff hb).1 k2
    rintro (q | q | q | q)
    · omega
    · exact q ((h.adj a ha ga b hb).2 ⟨k2, k4⟩)
    · exact q ((h.adj a ha ga c hc).2 ⟨k3, k5⟩)
    · exact q ((h.adj b hb gb c hc).2 ⟨k3, k6⟩)
  · intro hn
    have m1 : (b : Int) ∈ nthR r.near a := Classical.byContradiction fun q => hn (.inr (.inl q))
    have m2 : (c : Int) ∈ nthR r.near a := Classical.byContradiction fun q => hn (.inr (.inr (.inl q)))
    have m3 : (c : Int) ∈ nthR r.near b := Classical.byContradiction fun q => hn (.inr (.inr (.inr q)))
    have m0 : 4 < r.count := Classical.byContradiction fun q => hn (.inl (by omega))
    have ga := h.rst.left ha m1
    have gb := h.rst.left hb m3
    have q1 := (h.adj a ha ga b hb).1 m1
    have q2 := (h.adj a ha ga c hc).1 m2
    have q3 := (h.adj b hb gb c hc).1 m3
    exact ⟨m0, (h.in_iff ha).2 ga, q1.1, q2.1, q1.2, q2.2, q3.2⟩
theorem Agr.hit {n : Nat} {r : Rst} {t : Tbl} (h : Agr n r t) {a b c : Nat} (hab : a < b) (hbc : b < c) (hc : c < n) : hitT t a b c = (cutF r a b c).2 ∧ (hitT t a b c = true → cutT t a b c = (cutF r a b c).1) := by
  have ht := h.tri (show a < n by omega) (show b < n by omega) hc
  by_cases hn : r.count ≤ 4 ∨ (b : Int) ∉ nthR r.near a ∨ (c : Int) ∉ nthR r.near a ∨ (c : Int) ∉ nthR r.near b
  · have e1 : triT t a b c = false := by
      cases hh : triT t a b c with
      | false => rfl
      | true => exact absurd hn (ht.1 hh)
    have e2 : cutF r a b c = ((0, 0, 0, 0, 0, 0), false) := by unfold cutF; rw [if_pos hn]
    have e3 : hitT t a b c = false := by unfold hitT; rw [e1]; rfl
    rw [e3, e2]
    exact ⟨rfl, fun e => Bool.noConfusion e⟩
  · have e1 : triT t a b c = true := ht.2 hn
    have e2 : cutF r a b c = (((a : Int), (b : Int), (c : Int), outV r a b c a, outV r a b c b, outV r a b c c), decide (2 ≤ isT r a + isT r b + isT r c)) := by unfold cutF; rw [if_neg hn]
    have m1 : (b : Int) ∈ nthR r.near a := Classical.byContradiction fun q => hn (.inr (.inl q))
    have m2 : (c : Int) ∈ nthR r.near a := Classical.byContradiction fun q => hn (.inr (.inr (.inl q)))
    have m3 : (c : Int) ∈ nthR r.near b := Classical.byContradiction fun q => hn (.inr (.inr (.inr q)))
    have an : a < n := by omega
    have bn : b < n := by omega
    have m4 := h.rst.sym a b an bn m1
    have m5 := h.rst.sym a c an hc m2
    have m6 := h.rst.sym b c bn hc m3
    have ga := h.rst.left an m1
    have gb := h.rst.left bn m3
    have gc := h.rst.left hc m5
    have e3 : hitT t a b c = decide (2 ≤ isT r a + isT r b + isT r c) := by unfold hitT; rw [e1, h.thr an ga, h.thr bn gb, h.thr hc gc, Bool.true_and]
    have e4 : cutT t a b c = ((a : Int), (b : Int), (c : Int), outV r a b c a, outV r a b c b, outV r a b c c) := by
      unfold cutT
      rw [h.out an m1 m2 (by omega) (fun x => in3_iff), h.out bn m4 m3 (by omega) (fun x => by rw [in3_iff]; omega), h.out hc m5 m6 (by omega) (fun x => by rw [in3_iff]; omega)]
    rw [e2, e3, e4]
    exact ⟨rfl, fun _ => rfl⟩
theorem isK_iff {t : Tbl} {a b c : Nat} {p q s : Int} (hab : a < b) (hbc : b < c) (hc : c < t.inn.length) : isK t ((a : Int), (b : Int), (c : Int), p, q, s) = true ↔ hitT t a b c = true ∧ ((a : Int), (b : Int), (c : Int), p, q, s) = cutT t a b c := by
  unfold isK
  simp only [Int.toNat_natCast, Bool.and_eq_true, decide_eq_true_eq]
  constructor
  · exact fun k => k.2
  · exact fun k => ⟨by unfold okT; simp only; omega, k⟩
/-- A cut by the table is the code's. -/
theorem Agr.is {n : Nat} {r : Rst} {t : Tbl} (h : Agr n r t) (e : Cu) : isK t e = true ↔ okT n e ∧ cutF r e.1.toNat e.2.1.toNat e.2.2.1.toNat = (e, true) := by
  by_cases hk : okT n e
  · obtain ⟨A, B, C, p, q, s⟩ := e
    have hk' := hk
    unfold okT at hk'
    simp only at hk'
    obtain ⟨a, rfl⟩ : ∃ a : Nat, A = (a : Int) := ⟨A.toNat, by omega⟩
    obtain ⟨b, rfl⟩ : ∃ b : Nat, B = (b : Int) := ⟨B.toNat, by omega⟩
    obtain ⟨c, rfl⟩ : ∃ c : Nat, C = (c : Int) := ⟨C.toNat, by omega⟩
    have hc : c < n := by omega
    obtain ⟨g1, g2⟩ := h.hit (show a < b by omega) (show b < c by omega) hc
    rw [isK_iff (by omega) (by omega) (by rw [h.tb.inn]; exact hc)]
    simp only [Int.toNat_natCast]
    constructor
    · rintro ⟨q1, q2⟩
      exact ⟨hk, Prod.ext (by rw [← g2 q1]; exact q2.symm) (by rw [← g1]; exact q1)⟩
    · rintro ⟨_, q2⟩
      have q3 : hitT t a b c = true := by rw [g1, q2]
      exact ⟨q3, by rw [g2 q3, q2]⟩
  · constructor
    · intro q
      unfold isK at q
      rw [h.tb.inn, decide_eq_false hk, Bool.false_and] at q
      exact absurd q Bool.noConfusion
    · exact fun q => absurd q.1 hk
/-! ### the least -/
def leastTc (t : Tbl) (a b c : Nat) : Option Cu := if hitT t a b c = true then some (cutT t a b c) else none
def leastTb (t : Tbl) (a b : Nat) : Option Cu := if nthB t.inn a = true ∧ nthB t.inn b = true ∧ nthB (nthT t.adj a) b = true then (List.range' (b + 1) (t.inn.length - (b + 1))).findSome? (leastTc t a b) else none
def leastTa (t : Tbl) (a : Nat) : Option Cu := (List.range' (a + 1) (t.inn.length - (a + 1))).findSome? (leastTb t a)
def leastT (t : Tbl) : Option Cu := (List.range t.inn.length).findSome? (leastTa t)
theorem fs_sub {β : Type} {g : Nat → Option β} {f : Int → Option β} {m : List Nat} (hm : m.Pairwise (· < ·)) : ∀ {l : List Int}, l.Pairwise (· < ·) → (∀ x ∈ l, (∃ k ∈ m, x = ((k : Nat) : Int)) ∨ f x = none) → (∀ k ∈ m, (k : Int) ∈ l → g k = f k) → (∀ k ∈ m, (k : Int) ∉ l → g k = none) → m.findSome? g = l.findSome? f
  | [], _, _, _, h => by
    rw [List.findSome?_nil, List.findSome?_eq_none_iff]
    exact fun k hk => h k hk List.not_mem_nil
  | x :: l, hp, h1, h2, h3 => by
    rw [List.pairwise_cons] at hp
    cases hf : f x with
    | none =>
      rw [List.findSome?_cons, hf]
      refine fs_sub hm hp.2 (fun y hy => h1 y (List.mem_cons_of_mem _ hy)) (fun k hk hl => h2 k hk (List.mem_cons_of_mem _ hl)) (fun k hk hl => ?_)
      by_cases e : (k : Int) = x
      · rw [h2 k hk (by rw [e]; exact List.mem_cons_self), e, hf]
      · exact h3 k hk (fun q => by
          rcases List.mem_cons.1 q with q | q
          · exact e q
          · exact hl q)
    | some y =>
      rw [List.findSome?_cons, hf]
      rcases h1 x List.mem_cons_self with ⟨k, hk, e⟩ | e
      · subst e
        obtain ⟨m1, m2, rfl⟩ := List.append_of_mem hk
        rw [List.pairwise_append] at hm
        rw [List.findSome?_append, List.findSome?_cons, h2 k hk List.mem_cons_self, hf]
        have : m1.findSome? g = none := by
          rw [List.findSome?_eq_none_iff]
          intro k' hk'
          have hlt := hm.2.2 k' hk' k List.mem_cons_self
          refine h3 k' (List.mem_append_left _ hk') (fun q => ?_)
          rcases List.mem_cons.1 q with q | q
          · omega
          · have := hp.1 _ q; omega
        rw [this]; rfl
      · rw [hf] at e; cases e
theorem fs_congr {α β : Type} {f g : α → Option β} : ∀ {l : List α}, (∀ x ∈ l, f x = g x) → l.findSome? f = l.findSome? g
  | [], _ => rfl
  | x :: l, h => by
    rw [List.findSome?_cons, List.findSome?_cons, h x List.mem_cons_self, fs_congr fun y hy => h y (List.mem_cons_of_mem _ hy)]
theorem mem_r' {a m k : Nat} : k ∈ List.range' a m ↔ a ≤ k ∧ k < a + m := by rw [List.mem_range'_1]
theorem leastC_eq (r : Rst) (a b c : Nat) : leastC r a b c = if b < c ∧ (c : Int) ∈ nthR r.near a then (if (cutF r a b c).2 = true then some (cutF r a b c).1 else none) else none := by
  unfold leastC
  simp only [Int.toNat_natCast, Int.ofNat_lt]
theorem Agr.leastc {n : Nat} {r : Rst} {t : Tbl} (h : Agr n r t) {a b : Nat} (hab : a < b) (hb : b < n) : (List.range' (b + 1) (t.inn.length - (b + 1))).findSome? (leastTc t a b) = (nthR r.near b).findSome? (leastC r a b) := by
  rw [h.tb.inn]
  refine fs_sub List.pairwise_lt_range' (h.rst.rise b hb) (fun x hx => ?_) (fun k hk hl => ?_) (fun k hk hl => ?_)
  · have hr := h.rst.rng b hb x hx
    obtain ⟨k, rfl⟩ : ∃ k : Nat, x = (k : Int) := ⟨x.toNat, by omega⟩
    by_cases hbk : b < k
    · exact .inl ⟨k, mem_r'.2 (by omega), rfl⟩
    · right; rw [leastC_eq, if_neg (fun q => hbk q.1)]
  · rw [mem_r'] at hk
    obtain ⟨g1, g2⟩ := h.hit hab (show b < k by omega) (by omega)
    rw [leastC_eq]
    unfold leastTc
    by_cases hm : (k : Int) ∈ nthR r.near a
    · rw [if_pos (show b < k ∧ (k : Int) ∈ nthR r.near a from ⟨by omega, hm⟩)]
      cases hh : hitT t a b k with
      | true => rw [if_pos rfl, g2 hh, if_pos (by rw [← g1]; exact hh)]
      | false => rw [if_neg Bool.noConfusion, if_neg (by rw [← g1, hh]; exact Bool.noConfusion)]
    · rw [if_neg (show ¬ (b < k ∧ (k : Int) ∈ nthR r.near a) from fun q => hm q.2)]
      rw [if_neg]
      rw [g1]
      unfold cutF
      rw [if_pos (.inr (.inr (.inl hm)))]
      exact Bool.noConfusion
  · rw [mem_r'] at hk
    obtain ⟨g1, g2⟩ := h.hit hab (show b < k by omega) (by omega)
    unfold leastTc
    rw [if_neg]
    rw [g1]
    unfold cutF
    rw [if_pos (.inr (.inr (.inr hl)))]
    exact Bool.noConfusion
theorem leastB_eq (r : Rst) (a b : Nat) : leastB r a b = if b < a then none else (nthR r.near b).findSome? (leastC r a b) := by
  unfold leastB
  simp only [Int.toNat_natCast, Int.ofNat_lt]
theorem Agr.leasta {n : Nat} {r : Rst} {t : Tbl} (h : Agr n r t) {a : Nat} (ha : a < n) : leastTa t a = leastA r a := by
  unfold leastTa leastA
  rw [show t.inn.length = n from h.tb.inn]
  refine fs_sub List.pairwise_lt_range' (h.rst.rise a ha) (fun x hx => ?_) (fun k hk hl => ?_) (fun k hk hl => ?_)
  · have hr := h.rst.rng a ha x hx
    obtain ⟨k, rfl⟩ : ∃ k : Nat, x = (k : Int) := ⟨x.toNat, by omega⟩
    have hne : k ≠ a := by rintro rfl; exact h.rst.irr k ha hx
    by_cases hbk : a < k
    · exact .inl ⟨k, mem_r'.2 (by omega), rfl⟩
    · right; rw [leastB_eq, if_pos (by omega)]
  · rw [mem_r'] at hk
    have hkn : k < n := by omega
    have ga := h.rst.left ha hl
    have q := (h.adj a ha ga k hkn).1 hl
    rw [leastB_eq, if_neg (by omega), ← h.leastc (by omega) hkn]
    unfold leastTb
    rw [if_pos ⟨(h.in_iff ha).2 ga, q.1, q.2⟩]
  · rw [mem_r'] at hk
    have hkn : k < n := by omega
    unfold leastTb
    rw [if_neg]
    rintro ⟨q1, q2, q3⟩
    have ga := (h.in_iff ha).1 q1
    exact hl ((h.adj a ha ga k hkn).2 ⟨q2, q3⟩)
theorem Agr.least {n : Nat} {r : Rst} {t : Tbl} (h : Agr n r t) : leastT t = leastF r := by
  unfold leastT leastF
  rw [h.tb.inn, h.rst.near]
  exact fs_congr fun a ha => h.leasta (List.mem_range.1 ha)
end Go.Proofs.Ytnmocjhpbobahaa.L
