/- UA: rows of rows of truth values; the document's table (layer 20). U59: Rest.Near, Rest.Count, Rest.inner of the document's table. U58: Rest.Count, Rest.inner, Rest.joins of the document's table. -/
import Derived.Test.YtnmocjhpbobahaaQ15
set_option linter.unusedVariables false
set_option linter.unusedSimpArgs false
set_option linter.unnecessarySimpa false
namespace Go.Proofs.Ytnmocjhpbobahaa.L
open Go Go.RowKit
set_option maxRecDepth 100000
def nthT (l : List (List Bool)) (i : Nat) : List Bool := l.getD i []
def RT (l : List (List Bool)) : List (Cell Unit) := l.map fun r => .sl false 1 () (BL r)
def OT (l : List (List Bool)) : List (Cell Unit) := l.map fun r => .sl true 1 () (BL r)
@[simp] theorem RT_length (l : List (List Bool)) : (RT l).length = l.length := by simp [RT]
@[simp] theorem RT_copy (l : List (List Bool)) : (RT l).all Cell.copyable = true := by induction l <;> simp_all [RT, Cell.copyable]
@[simp] theorem RT_mem_copy (l : List (List Bool)) : (∀ x : Cell Unit, x ∈ RT l → x.copyable = true) = True := eq_true (fun x hx => List.all_eq_true.1 (RT_copy l) x hx)
@[simp] theorem RT_nth (l : List (List Bool)) (k : Nat) (h : k < l.length) : ((RT l).drop k).take 1 = [.sl false 1 () (BL (nthT l k))] := by
  rw [RT, ← List.map_drop, ← List.map_take]
  have : List.take 1 (List.drop k l) = [l[k]] := by rw [List.drop_eq_getElem_cons h]; rfl
  rw [this]
  simp [nthT, h]
@[simp] theorem freezeL_RT : ∀ l : List (List Bool), freezeL (RT l) = RT l
  | [] => rfl
  | n :: l => by have := freezeL_RT l; simp only [RT, List.map_cons, freezeL, Cell.freeze, freezeL_BL] at this ⊢; rw [this]
@[simp] theorem OT_length (l : List (List Bool)) : (OT l).length = l.length := by simp [OT]
@[simp] theorem freezeL_OT : ∀ l : List (List Bool), freezeL (OT l) = RT l
  | [] => rfl
  | n :: l => by have := freezeL_OT l; simp only [OT, RT, List.map_cons, freezeL, Cell.freeze, freezeL_BL] at this ⊢; rw [this]
@[simp] theorem allOwn_OT : ∀ l : List (List Bool), allOwnL (OT l) = true
  | [] => rfl
  | n :: l => by have := allOwn_OT l; simp only [OT, List.map_cons, allOwnL, Cell.allOwn, allOwn_BL] at this ⊢; rw [this]; rfl
@[simp] theorem OT_get (l : List (List Bool)) (k : Nat) (h : k < l.length) : (OT l)[k]? = some (.sl true 1 () (BL (nthT l k))) := by
  simp [OT, nthT, h]
@[simp] theorem OT_nth (l : List (List Bool)) (k : Nat) (h : k < l.length) : ((OT l).drop k).take 1 = [.sl true 1 () (BL (nthT l k))] := by
  rw [OT, ← List.map_drop, ← List.map_take]
  have : List.take 1 (List.drop k l) = [l[k]] := by rw [List.drop_eq_getElem_cons h]; rfl
  rw [this]
  simp [nthT, h]
@[simp] theorem OT_set (l : List (List Bool)) (k : Nat) (r : List Bool) : (OT l).set k (.sl true 1 () (BL r)) = OT (l.set k r) := by simp [OT]
@[simp] theorem OT_app1 (l : List (List Bool)) (r : List Bool) : OT l ++ [.sl true 1 () (BL r)] = OT (l ++ [r]) := by simp [OT]
@[simp] theorem OT_mem_alive (l : List (List Bool)) : (∀ x : Cell Unit, x ∈ OT l → x.isDead = false) = True := eq_true (fun x hx => by
  simp only [OT, List.mem_map] at hx; obtain ⟨r, _, rfl⟩ := hx; rfl)
@[simp] theorem OT_nil : OT [] = [] := rfl
theorem nthT_set {l : List (List Bool)} {i j : Nat} {x : List Bool} (hi : i < l.length) : nthT (l.set i x) j = if i = j then x else nthT l j := by
  unfold nthT
  simp only [List.getD_eq_getElem?_getD, List.getElem?_set]
  split
  · next h => subst h; simp [hi]
  · rfl
def toTs : List (Cell Unit) → Option (List (List Bool))
  | [] => some []
  | .sl false 1 _ row :: l => match toBools row, toTs l with
    | some r, some m => some (r :: m)
    | _, _ => none
  | _ => none
def toTo : List (Cell Unit) → Option (List (List Bool))
  | [] => some []
  | .sl true 1 _ row :: l => match toBools row, toTo l with
    | some r, some m => some (r :: m)
    | _, _ => none
  | _ => none
@[simp] theorem toTs_RT (l : List (List Bool)) : toTs (RT l) = some l := by
  induction l with
  | nil => rfl
  | cons r l ih => simp only [RT, List.map_cons, toTs, toBools_map] at ih ⊢; rw [ih]
@[simp] theorem toTo_OT (l : List (List Bool)) : toTo (OT l) = some l := by
  induction l with
  | nil => rfl
  | cons r l ih => simp only [OT, List.map_cons, toTo, toBools_map] at ih ⊢; rw [ih]
theorem toTs_eq : ∀ {row : List (Cell Unit)} {l : List (List Bool)}, toTs row = some l → row = RT l := by
  intro row
  induction row with
  | nil => intro l h; simp only [toTs, Option.some.injEq] at h; subst h; rfl
  | cons c row ih =>
    intro l h
    cases c with
    | sl o sz a r =>
      by_cases ho : o = false ∧ sz = 1
      · obtain ⟨rfl, rfl⟩ := ho
        simp only [toTs] at h
        split at h
        · next r' m h1 h2 => simp only [Option.some.injEq] at h; subst h; rw [ih h2, toBools_eq h1]; rfl
        · cases h
      · exfalso
        unfold toTs at h
        split at h <;> simp_all
    | _ => simp [toTs] at h
theorem toTo_eq : ∀ {row : List (Cell Unit)} {l : List (List Bool)}, toTo row = some l → row = OT l := by
  intro row
  induction row with
  | nil => intro l h; simp only [toTo, Option.some.injEq] at h; subst h; rfl
  | cons c row ih =>
    intro l h
    cases c with
    | sl o sz a r =>
      by_cases ho : o = true ∧ sz = 1
      · obtain ⟨rfl, rfl⟩ := ho
        simp only [toTo] at h
        split at h
        · next r' m h1 h2 => simp only [Option.some.injEq] at h; subst h; rw [ih h2, toBools_eq h1]; rfl
        · cases h
      · exfalso
        unfold toTo at h
        split at h <;> simp_all
    | _ => simp [toTo] at h
/-! ### the table -/
structure Tbl where
  inn : List Bool
  adj : List (List Bool)
  mark : List Int
abbrev tbF (t : Tbl) : Cell Unit := .bx false () [.sl false 1 () (BL t.inn), .sl false 1 () (RT t.adj), .sl false 1 () (IL t.mark)]
abbrev tbO (t : Tbl) : Cell Unit := .bx true () [.sl true 1 () (BL t.inn), .sl true 1 () (OT t.adj), .sl true 1 () (IL t.mark)]
structure TbOk (n : Nat) (t : Tbl) : Prop where
  inn : t.inn.length = n
  adj : t.adj.length = n
  row : ∀ v, v < n → (nthT t.adj v).length = n
  mark : t.mark.length = n
def asTb : SV Unit → Option Tbl
  | ⟨.one, [.c (.bx false () [.sl false 1 () a, .sl false 1 () b, .sl false 1 () c])]⟩ => match toBools a, toTs b, toInts c with
    | some a, some b, some c => some ⟨a, b, c⟩
    | _, _, _ => none
  | _ => none
@[simp] theorem asTb_tb (t : Tbl) : asTb ⟨.one, [.c (tbF t)]⟩ = some t := by simp [asTb]
theorem asTb_eq {v : SV Unit} {t : Tbl} (h : asTb v = some t) : v = ⟨.one, [.c (tbF t)]⟩ := by
  unfold asTb at h
  split at h
  · split at h
    · next a b c h1 h2 h3 =>
      simp only [Option.some.injEq] at h
      subst h
      rw [toBools_eq h1, toTs_eq h2, toInts_eq h3]
    · cases h
  · cases h
def asTbO : SV Unit → Option Tbl
  | ⟨.one, [.c (.bx true () [.sl true 1 () a, .sl true 1 () b, .sl true 1 () c])]⟩ => match toBools a, toTo b, toInts c with
    | some a, some b, some c => some ⟨a, b, c⟩
    | _, _, _ => none
  | _ => none
@[simp] theorem asTbO_tb (t : Tbl) : asTbO ⟨.one, [.c (tbO t)]⟩ = some t := by simp [asTbO]
theorem asTbO_eq {v : SV Unit} {t : Tbl} (h : asTbO v = some t) : v = ⟨.one, [.c (tbO t)]⟩ := by
  unfold asTbO at h
  split at h
  · split at h
    · next a b c h1 h2 h3 =>
      simp only [Option.some.injEq] at h
      subst h
      rw [toBools_eq h1, toTo_eq h2, toInts_eq h3]
    · cases h
  · cases h
@[simp] theorem undTb : Try.prog.underlying 105 = some (.struct #[⟨"In", 91, 0, false, "", "", 0⟩, ⟨"Adj", 103, 1, false, "", "", 24⟩, ⟨"Mark", 39, 2, false, "", "", 48⟩]) := by kernel_rfl
@[simp] theorem cellsTb : Try.prog.cellsOf 105 = 3 := by kernel_rfl
@[simp] theorem undTs : Try.prog.underlying 103 = some (.slice 91) := by kernel_rfl
@[simp] theorem cellsTs : Try.prog.cellsOf 103 = 1 := by kernel_rfl
abbrev tbf (t : Tbl) : SV Unit := ⟨.one, [.c (tbF t)]⟩
end Go.Proofs.Ytnmocjhpbobahaa.L
namespace Go.Proofs.Ytnmocjhpbobahaa.L
open Go Go.RowKit
set_option maxRecDepth 100000
set_option maxHeartbeats 4000000
/-- Who of the first i is in, and a neighbour. -/
def nearT (t : Tbl) (v : Nat) : Nat → List Int
  | 0 => []
  | i + 1 => if nthB t.inn i = true ∧ nthB (nthT t.adj v) i = true then nearT t v i ++ [(i : Int)] else nearT t v i
theorem nearT_le (t : Tbl) (v i : Nat) : (nearT t v i).length ≤ i := by
  induction i with
  | zero => exact Nat.le_refl _
  | succ i ih =>
    rw [nearT]; split
    · rw [List.length_append]; simp only [List.length_cons, List.length_nil]; omega
    · omega
theorem bT {l : List Bool} {i : Nat} (h : nthB l i = true) : nthB l i = true := h
theorem bF {l : List Bool} {i : Nat} (h : nthB l i = false) : nthB l i = false := h
attribute [local simp] bT bF
theorem wNearT (n : Nat) (t : Tbl) (ht : TbOk n t) (hn : n ≤ 1000000) (v : Nat) (hv : v < n) : ∃ c, Try.f59.body = some c ∧ RP (regOf Try.prog env0 41 u59) c (argsSt 0 [tbf t, iv v]) (endsAs Try.prog Try.f59 (ow (nearT t v n))) := by
  refine ⟨_, rfl, ?_⟩
  generalize hQ : endsAs Try.prog Try.f59 (ow (nearT t v n)) = Q
  simp only [argsSt]
  have c1 := ht.inn
  have c2 := ht.adj
  have c3 := ht.row v hv
  have c4 : v < t.adj.length := by omega
  refine go ?_
  apply rp_loop (fun k σ => ∃ i : Nat, i ≤ n ∧ k = n - i ∧ σ = [(0, tbf t), (1, iv v), (5, ow (nearT t v i)), (6, iv i)]) n
  · exact ⟨0, by omega, by omega, rfl⟩
  rintro k σ ⟨i, hi, rfl, rfl⟩
  have hle := nearT_le t v i
  by_cases hil : i < n
  · have i1 : i < t.inn.length := by omega
    have i2 : i < (nthT t.adj v).length := by omega
    cases h1 : nthB t.inn i with
    | false =>
      have e : nearT t v (i + 1) = nearT t v i := by rw [nearT, if_neg (by rw [h1]; rintro ⟨h, _⟩; cases h)]
      generalize nearT t v i = L at *
      refine go ?_
      exact nxt (n - (i + 1)) (by omega) ⟨i + 1, by omega, rfl, by rw [e]; rfl⟩
    | true =>
      cases h2 : nthB (nthT t.adj v) i with
      | false =>
        have e : nearT t v (i + 1) = nearT t v i := by rw [nearT, if_neg (by rw [h2]; rintro ⟨_, h⟩; cases h)]
        generalize nearT t v i = L at *
        refine go ?_
        exact nxt (n - (i + 1)) (by omega) ⟨i + 1, by omega, rfl, by rw [e]; rfl⟩
      | true =>
        have e : nearT t v (i + 1) = nearT t v i ++ [(i : Int)] := by rw [nearT, if_pos ⟨h1, h2⟩]
        generalize nearT t v i = L at *
        refine go ?_
        exact nxt (n - (i + 1)) (by omega) ⟨i + 1, by omega, rfl, by rw [e]; rfl⟩
  obtain rfl : i = n := by omega
  refine go ?_
  show Q .ret _; refine fin_ret hQ rfl ?_
  rfl
def TbHas (t : Tbl) (v : Nat) : Prop := ∃ n : Nat, TbOk n t ∧ n ≤ 1000000 ∧ v < n
noncomputable def specNearT : Spec := fun us => match us with
  | [x, y] => match asTb x, asInt y with
    | some t, some a => whenC (0 ≤ a ∧ TbHas t a.toNat) (ow (nearT t a.toNat t.inn.length))
    | _, _ => none
  | _ => none
theorem okNearT : SpecOk 59 specNearT := by
  intro us R h
  unfold specNearT at h
  split at h
  · split at h
    · next x y _ t a h1 h2 =>
      obtain ⟨⟨h0, n, h3, h4, h5⟩, rfl⟩ := whenC_eq h
      rw [asTb_eq h1, asInt_eq h2]
      have hw := wNearT n t h3 h4 a.toNat h5
      rw [show (a.toNat : Int) = a by omega, ← h3.inn] at hw
      exact goodBy2 env0_ok Try.func59 rfl (Nat.le_of_ble_eq_true rfl) (by decide) hw
    · cases h
  · cases h
@[simp] theorem sNearT {t : Tbl} {a : Nat} (h : TbHas t a) : specNearT [⟨.one, [.c (tbF t)]⟩, iv a] = some (ow (nearT t a t.inn.length)) := by
  unfold specNearT
  simp only [asTb_tb, asInt_iv]
  exact whenC_pos _ ⟨by omega, h⟩
@[simp] theorem callNearT {E : Env} {σ : St Unit} {t : Nat} {l : List Operand} : effCall Try.prog E ΩU σ t 59 l = callO E 59 t (argsOf Try.prog ΩU σ [70, 3] l) := eff_call Try.func59 Try.params59
end Go.Proofs.Ytnmocjhpbobahaa.L
namespace Go.Proofs.Ytnmocjhpbobahaa.L
open Go Go.RowKit
set_option maxRecDepth 100000
set_option maxHeartbeats 4000000
def cntT (t : Tbl) : Nat → Int
  | 0 => 0
  | i + 1 => if nthB t.inn i = true then cntT t i + 1 else cntT t i
theorem cntT_le (t : Tbl) (i : Nat) : 0 ≤ cntT t i ∧ cntT t i ≤ i := by
  induction i with
  | zero => exact ⟨Int.le_refl _, Int.le_refl _⟩
  | succ i ih => rw [cntT]; split <;> omega
attribute [local simp] bT bF
theorem wCountT (n : Nat) (t : Tbl) (ht : TbOk n t) (hn : n ≤ 1000000) : ∃ c, Try.f58.body = some c ∧ RP (regOf Try.prog env0 24 u58) c (argsSt 0 [tbf t]) (endsAs Try.prog Try.f58 (iv (cntT t n))) := by
  refine ⟨_, rfl, ?_⟩
  generalize hQ : endsAs Try.prog Try.f58 (iv (cntT t n)) = Q
  simp only [argsSt]
  have c1 := ht.inn
  refine go ?_
  apply rp_loop (fun k σ => ∃ i : Nat, i ≤ n ∧ k = n - i ∧ σ = [(0, tbf t), (3, iv (cntT t i)), (4, iv i)]) n
  · exact ⟨0, by omega, by omega, rfl⟩
  rintro k σ ⟨i, hi, rfl, rfl⟩
  have hle := cntT_le t i
  by_cases hil : i < n
  · have i1 : i < t.inn.length := by omega
    cases h1 : nthB t.inn i with
    | false =>
      have e : cntT t (i + 1) = cntT t i := by rw [cntT, if_neg (by rw [h1]; exact Bool.noConfusion)]
      refine go ?_
      exact nxt (n - (i + 1)) (by omega) ⟨i + 1, by omega, rfl, by rw [e]; rfl⟩
    | true =>
      have e : cntT t (i + 1) = cntT t i + 1 := by rw [cntT, if_pos h1]
      refine go ?_
      exact nxt (n - (i + 1)) (by omega) ⟨i + 1, by omega, rfl, by rw [e]; rfl⟩
  obtain rfl : i = n := by omega
  refine go ?_
  show Q .ret _; refine fin_ret hQ rfl ?_
  rfl
noncomputable def specCountT : Spec := fun us => match us with
  | [x] => match asTb x with
    | some t => whenC (TbOk t.inn.length t ∧ t.inn.length ≤ 1000000) (iv (cntT t t.inn.length))
    | _ => none
  | _ => none
theorem okCountT : SpecOk 58 specCountT := by
  intro us R h
  unfold specCountT at h
  split at h
  · split at h
    · next x _ t h1 =>
      obtain ⟨⟨h3, h4⟩, rfl⟩ := whenC_eq h
      rw [asTb_eq h1]
      exact goodBy2 env0_ok Try.func58 rfl (Nat.le_of_ble_eq_true rfl) (by decide) (wCountT _ t h3 h4)
    · cases h
  · cases h
def TbGood (t : Tbl) : Prop := TbOk t.inn.length t ∧ t.inn.length ≤ 1000000
@[simp] theorem sCountT {t : Tbl} (h : TbGood t) : specCountT [⟨.one, [.c (tbF t)]⟩] = some (iv (cntT t t.inn.length)) := by
  unfold specCountT
  simp only [asTb_tb]
  exact whenC_pos _ h
@[simp] theorem callCountT {E : Env} {σ : St Unit} {t : Nat} {l : List Operand} : effCall Try.prog E ΩU σ t 58 l = callO E 58 t (argsOf Try.prog ΩU σ [70] l) := eff_call Try.func58 Try.params58
/-! ### inner -/
def innT (t : Tbl) (v : Nat) : Bool := decide (nth t.mark v = 2 ∨ 3 < (nearT t v t.inn.length).length)
noncomputable abbrev EInT : Env := ext env0 59 specNearT
theorem wInT (n : Nat) (t : Tbl) (ht : TbOk n t) (hn : n ≤ 1000000) (v : Nat) (hv : v < n) : ∃ c, Try.f77.body = some c ∧ RP (regOf Try.prog EInT 20 u77) c (argsSt 0 [tbf t, iv v]) (endsAs Try.prog Try.f77 (bv (innT t v))) := by
  refine ⟨_, rfl, ?_⟩
  generalize hQ : endsAs Try.prog Try.f77 (bv (innT t v)) = Q
  simp only [argsSt]
  have c2 := ht.mark
  have c3 : v < t.mark.length := by omega
  have hb : TbHas t v := ⟨n, ht, hn, hv⟩
  have hle := nearT_le t v t.inn.length
  by_cases hm : nth t.mark v = 2
  · refine go ?_
    show Q .ret _; refine fin_ret hQ rfl ?_
    rw [show innT t v = true from decide_eq_true (.inl hm)]; rfl
  · by_cases h3 : 3 < (nearT t v t.inn.length).length
    · refine go ?_
      show Q .ret _; refine fin_ret hQ rfl ?_
      rw [show innT t v = true from decide_eq_true (.inr h3)]; rfl
    · refine go ?_
      show Q .ret _; refine fin_ret hQ rfl ?_
      rw [show innT t v = false from decide_eq_false (fun h => h.elim hm h3)]; rfl
noncomputable def specInT : Spec := fun us => match us with
  | [x, y] => match asTb x, asInt y with
    | some t, some a => whenC (0 ≤ a ∧ TbHas t a.toNat) (bv (innT t a.toNat))
    | _, _ => none
  | _ => none
theorem EInT_ok : EnvOk Try.prog EInT := ext_ok env0_ok okNearT
theorem okInT : SpecOk 77 specInT := by
  intro us R h
  unfold specInT at h
  split at h
  · split at h
    · next x y _ t a h1 h2 =>
      obtain ⟨⟨h0, n, h3, h4, h5⟩, rfl⟩ := whenC_eq h
      rw [asTb_eq h1, asInt_eq h2]
      have hw := wInT n t h3 h4 a.toNat h5
      rw [show (a.toNat : Int) = a by omega] at hw
      exact goodBy2 EInT_ok Try.func77 rfl (Nat.le_of_ble_eq_true rfl) (by decide) hw
    · cases h
  · cases h
@[simp] theorem sInT {t : Tbl} {a : Nat} (h : TbHas t a) : specInT [⟨.one, [.c (tbF t)]⟩, iv a] = some (bv (innT t a)) := by
  unfold specInT
  simp only [asTb_tb, asInt_iv]
  exact whenC_pos _ ⟨by omega, h⟩
@[simp] theorem callInT {E : Env} {σ : St Unit} {t : Nat} {l : List Operand} : effCall Try.prog E ΩU σ t 77 l = callO E 77 t (argsOf Try.prog ΩU σ [70, 3] l) := eff_call Try.func77 Try.params77
end Go.Proofs.Ytnmocjhpbobahaa.L
