/- UB: what the document begins with agrees with the code's. U32: carcanetref20.Begin. -/
import Derived.Test.YtnmocjhpbobahaaQ20
import Derived.Test.YtnmocjhpbobahaaQ21
import Derived.Test.YtnmocjhpbobahaaQ36
set_option linter.unusedVariables false
set_option linter.unusedSimpArgs false
set_option linter.unnecessarySimpa false
namespace Go.Proofs.Ytnmocjhpbobahaa.L
open Go Go.RowKit
set_option maxRecDepth 100000
/-- The table of the first i edges. -/
def tbE (n : Nat) (es : List (Int × Int)) : Nat → Tbl
  | 0 => ⟨List.replicate n true, List.replicate n (List.replicate n false), List.replicate n 0⟩
  | i + 1 => (tbE n es i).join (ent es i).1.toNat (ent es i).2.toNat
theorem nthT_rep {n v : Nat} (hv : v < n) : nthT (List.replicate n (List.replicate n false)) v = List.replicate n false := by
  unfold nthT
  simp [hv]
theorem tbE_inn (n : Nat) (es : List (Int × Int)) (i : Nat) : (tbE n es i).inn = List.replicate n true ∧ (tbE n es i).mark = List.replicate n 0 := by
  induction i with
  | zero => exact ⟨rfl, rfl⟩
  | succ i ih => exact ih
theorem tbE_ok {n : Nat} {es : List (Int × Int)} (h : RightG n es) : ∀ i, i ≤ es.length → TbOk n (tbE n es i) ∧ ∀ v x : Nat, v < n → x < n → (nthB (nthT (tbE n es i).adj v) x = true ↔ ∃ j, j < i ∧ (ent es j = ((v : Int), (x : Int)) ∨ ent es j = ((x : Int), (v : Int))))
  | 0, _ => by
    refine ⟨⟨by simp [tbE], by simp [tbE], fun v hv => ?_, by simp [tbE]⟩, fun v x hv hx => ?_⟩
    · show (nthT (List.replicate n (List.replicate n false)) v).length = n
      rw [nthT_rep hv]; simp
    · show nthB (nthT (List.replicate n (List.replicate n false)) v) x = true ↔ _
      rw [nthT_rep hv, nthB_rep]
      exact ⟨fun e => Bool.noConfusion e, fun ⟨j, hj, _⟩ => absurd hj (Nat.not_lt_zero _)⟩
  | i + 1, hi => by
    obtain ⟨k1, k2⟩ := tbE_ok h i (by omega)
    obtain ⟨e1, e2, e3, e4, e5⟩ := right_rng h i (by omega)
    have an : (ent es i).1.toNat < n := by omega
    have bn : (ent es i).2.toNat < n := by omega
    have ab : (ent es i).1.toNat ≠ (ent es i).2.toNat := by omega
    refine ⟨k1.join an bn, fun v x hv hx => ?_⟩
    show nthB (nthT ((tbE n es i).join (ent es i).1.toNat (ent es i).2.toNat).adj v) x = true ↔ _
    rw [join_at k1 an bn ab v x hv hx]
    have hent : ∀ p q : Nat, (p = (ent es i).1.toNat ∧ q = (ent es i).2.toNat) ↔ ent es i = ((p : Int), (q : Int)) := by
      intro p q
      constructor
      · rintro ⟨a, b⟩; exact Prod.ext (by simp only; omega) (by simp only; omega)
      · intro e; rw [e]; exact ⟨by simp, by simp⟩
    split
    · next hc =>
      refine ⟨fun _ => ⟨i, by omega, ?_⟩, fun _ => rfl⟩
      rcases hc with ⟨a, b⟩ | ⟨a, b⟩
      · exact .inl ((hent v x).1 ⟨a, b⟩)
      · exact .inr ((hent x v).1 ⟨b, a⟩)
    · next hc =>
      rw [k2 v x hv hx]
      constructor
      · rintro ⟨j, a, b⟩; exact ⟨j, by omega, b⟩
      · rintro ⟨j, a, b⟩
        by_cases e : j = i
        · subst e
          rcases b with b | b
          · exact absurd (.inl ((hent v x).2 b)) hc
          · have := (hent x v).2 b
            exact absurd (.inr ⟨this.2, this.1⟩) hc
        · exact ⟨j, by omega, b⟩
theorem begin_agr {n : Nat} {es : List (Int × Int)} (h : RightG n es) : Agr n (beginF n es) (tbE n es es.length) := by
  obtain ⟨k1, k2⟩ := tbE_ok h es.length (Nat.le_refl _)
  have hin : ∀ v, v < n → nthB (tbE n es es.length).inn v = true := fun v hv => by
    rw [(tbE_inn n es es.length).1]
    unfold nthB
    simp [hv]
  refine ⟨begin_ok h, k1, (tbE_inn n es es.length).2, fun v hv => ?_, fun v hv _ x hx => ?_⟩
  · rw [hin v hv]
    show true = !(nthB (List.replicate n false) v)
    rw [nthB_rep]; rfl
  · rw [begin_mem h hv, hin x hx, k2 v x hv hx]
    simp
end Go.Proofs.Ytnmocjhpbobahaa.L
namespace Go.Proofs.Ytnmocjhpbobahaa.L
open Go Go.RowKit
set_option maxRecDepth 100000
set_option maxHeartbeats 4000000
@[simp] theorem szsTb : szs Try.prog 8 105 = [1, 1, 1] := by kernel_rfl
@[simp] theorem infosTb : infosOk Try.prog 105 = true := by kernel_rfl
@[simp] theorem zeroTb : zeroCellsOf Try.prog () 105 = some [.sl true 1 () [], .sl true 1 () [], .sl true 1 () []] := by kernel_rfl
@[simp] theorem zeroTr : zeroCellsOf Try.prog () 91 = some [.sl true 1 () []] := by kernel_rfl
@[simp] theorem zokTr : zeroOk Try.prog 91 = true := by kernel_rfl
@[simp] theorem bytesTs : Try.prog.bytesOf 91 = 24 := by kernel_rfl
abbrev tbI (n i : Nat) : Tbl := ⟨List.replicate i true ++ List.replicate (n - i) false, List.replicate i (List.replicate n false), List.replicate n 0⟩
theorem rep_set {n i : Nat} (h : i < n) : (List.replicate i true ++ List.replicate (n - i) false).set i true = List.replicate (i + 1) true ++ List.replicate (n - (i + 1)) false := by
  rw [List.set_append_right _ _ (by simp), List.length_replicate, Nat.sub_self, show n - i = (n - (i + 1)) + 1 by omega, List.replicate_succ, List.set_cons_zero, List.replicate_succ', List.append_assoc]
  rfl
theorem wBeginT (n : Nat) (es : List (Int × Int)) (hR : RightG n es) : ∃ k, Try.f32.body = some k ∧ RP (regOf Try.prog env0 84 u32) k (argsSt 0 [gr n es]) (endsAs Try.prog Try.f32 (one (.c (tbO (tbE n es es.length))))) := by
  refine ⟨_, rfl, ?_⟩
  generalize hQ : endsAs Try.prog Try.f32 (one (.c (tbO (tbE n es es.length)))) = Q
  simp only [argsSt]
  have hn : n ≤ 1000 ∧ es.length ≤ 4000 := by have := hR.1; omega
  have b1 : n ≤ 1000 := hn.1
  have b2 : es.length ≤ 4000 := hn.2
  have b3 : 0 ≤ (n : Int) ∧ (n : Int) ≤ 1000 := by omega
  refine go ?_
  apply rp_loop (fun k σ => ∃ i : Nat, i ≤ n ∧ k = n - i ∧ σ = [(1, gbx n es), (3, one (.c (tbO (tbI n i)))), (4, iv i)]) n
  · exact ⟨0, by omega, by omega, by simp [tbI]⟩
  rintro k σ ⟨i, hi, rfl, rfl⟩
  by_cases hil : i < n
  · obtain ⟨A, hA⟩ : ∃ A, A = List.replicate i true ++ List.replicate (n - i) false := ⟨_, rfl⟩
    obtain ⟨B, hB⟩ : ∃ B, B = List.replicate i (List.replicate n false) := ⟨_, rfl⟩
    have i1 : i < A.length := by rw [hA]; simp; omega
    have e1 : A.set i true = List.replicate (i + 1) true ++ List.replicate (n - (i + 1)) false := by rw [hA]; exact rep_set hil
    have e2 : B ++ [List.replicate n false] = List.replicate (i + 1) (List.replicate n false) := by rw [hB, List.replicate_succ']
    have e3 : B.length ≤ 1000 := by rw [hB]; simp; omega
    rw [show tbI n i = (⟨A, B, List.replicate n 0⟩ : Tbl) by rw [hA, hB]]
    clear hA hB
    refine go ?_
    rw [e1, e2]
    exact nxt (n - (i + 1)) (by omega) ⟨i + 1, by omega, rfl, rfl⟩
  have hin : i = n := by omega
  rw [show tbI n i = tbE n es 0 by rw [hin]; show Tbl.mk _ _ _ = Tbl.mk _ _ _; rw [Nat.sub_self]; simp]
  have hil' : ¬ i < n := hil
  refine go ?_
  apply rp_loop (fun k σ => ∃ i : Nat, i ≤ es.length ∧ k = es.length - i ∧ σ = [(1, gbx n es), (3, one (.c (tbO (tbE n es i)))), (5, iv i)]) es.length
  · exact ⟨0, by omega, by omega, rfl⟩
  rintro k σ ⟨j, hj, rfl, rfl⟩
  by_cases hjl : j < es.length
  · obtain ⟨q1, q2, q3, q4, q5⟩ := right_rng hR j hjl
    have ht := (tbE_ok hR j (by omega)).1
    have hs : tbE n es (j + 1) = (tbE n es j).join (ent es j).1.toNat (ent es j).2.toNat := rfl
    generalize tbE n es j = t at *
    have an : (ent es j).1.toNat < n := by omega
    have bn : (ent es j).2.toNat < n := by omega
    have hab : (ent es j).1.toNat ≠ (ent es j).2.toNat := by omega
    have c2 := ht.adj
    have c3 := ht.row _ an
    have c4 := ht.row _ bn
    have a1 : (ent es j).1.toNat < t.adj.length := by omega
    have b1' : (ent es j).2.toNat < (nthT t.adj (ent es j).1.toNat).length := by omega
    have e1 : nthT (t.adj.set (ent es j).1.toNat ((nthT t.adj (ent es j).1.toNat).set (ent es j).2.toNat true)) (ent es j).2.toNat = nthT t.adj (ent es j).2.toNat := by rw [nthT_set a1, if_neg hab]
    have b2' : (ent es j).2.toNat < (t.adj.set (ent es j).1.toNat ((nthT t.adj (ent es j).1.toNat).set (ent es j).2.toNat true)).length := by rw [List.length_set]; omega
    have a2 : (ent es j).1.toNat < (nthT (t.adj.set (ent es j).1.toNat ((nthT t.adj (ent es j).1.toNat).set (ent es j).2.toNat true)) (ent es j).2.toNat).length := by rw [e1]; omega
    refine go ?_
    refine nxt (es.length - (j + 1)) (by omega) ⟨j + 1, by omega, rfl, ?_⟩
    rw [hs]; rfl
  obtain rfl : j = es.length := by omega
  refine go ?_
  show Q .ret _; refine fin_ret hQ rfl ?_
  rfl
noncomputable def specBeginT : Spec := spec1 asGr fun g => when (RightG g.1 g.2) (one (.c (tbO (tbE g.1.toNat g.2 g.2.length))))
theorem okBeginT : SpecOk 32 specBeginT := by
  intro us r h
  obtain ⟨x, l, rfl, hl, h⟩ := spec1_eq h
  obtain ⟨h1, rfl⟩ := when_eq h
  rw [asGr_eq hl]
  have h0 : ((l.1.toNat : Nat) : Int) = l.1 := by have := h1.1; omega
  have hw := wBeginT l.1.toNat l.2 (by rw [h0]; exact h1)
  rw [h0] at hw
  exact goodBy2 env0_ok Try.func32 rfl (Nat.le_of_ble_eq_true rfl) (by decide) hw
@[simp] theorem sBeginT (n : Nat) (es : List (Int × Int)) (h : RightG n es) : specBeginT [gr n es] = some ⟨.one, [.c (tbO (tbE n es es.length))]⟩ := by
  unfold specBeginT; rw [spec1_v _ _ _ _ (asGr_gr (n : Int) es)]; exact when_pos _ h
@[simp] theorem callBeginT {E : Env} {σ : St Unit} {t : Nat} {l : List Operand} : effCall Try.prog E ΩU σ t 32 l = callO E 32 t (argsOf Try.prog ΩU σ [26] l) := eff_call Try.func32 Try.params32
end Go.Proofs.Ytnmocjhpbobahaa.L
