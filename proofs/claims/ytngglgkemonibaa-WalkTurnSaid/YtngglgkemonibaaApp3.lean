/- append to a slice cut to its own length, 'x[:len(x):len(x)]': always into a new array. -/
import Derived.ArgAppend
import Derived.Test.YtngglgkemonibaaK0
namespace Go.Proofs.Ytngglgkemonibaa.P
open Go.RowKit Go.Proofs.YtngglgkemonibaaW.PrintWords
set_option linter.unusedVariables false

def cutcap : Value → Value
  | .slice A n _ => .slice A n n
  | v => v

theorem append3_run {P : Program} {w0 W : World} (base : Nat) (t ty e : TypeId) (z : Value) (bytes : Nat)
    (ht : P.underlying t = some (.slice e)) (hinfo : (P.info? e).map (fun i => (i.zero, i.size, i.bytes)) = some (some z, 1, bytes)) (hz : z.cells.size = 1) (hb0 : 0 < bytes)
    (v : Value) (xs : List Int) (p : Int) (ok : Nat → Prop) (hfresh : ∀ k, W.heap.size ≤ k → ok k)
    (HO : (Kd.int .i64).Q e W base ok v xs) (HB : Below base w0 W) (hbase : base ≤ W.heap.size) (hl : (xs.length + 1) * bytes ≤ 140737488355328) :
    ∃ v1 w1, (Builtin.append_ #[t, t] ty #[cutcap v, .slice (some ⟨W.heap.size, 0, none⟩) 1 1]).run P (W.alloc (.cells #[.int .i64 p] e)) = .ok v1 w1 ∧ (Kd.int .i64).Q e w1 base ok v1 (xs ++ [p]) ∧ Below base w0 w1 ∧ W.grownBy w1 v.ownBlock ∧ (v1.ownBlock = v.ownBlock ∨ ∃ b, v1.ownBlock = some b ∧ W.heap.size ≤ b) := by
  obtain ⟨A, c, rfl, hc, hC⟩ := Kd.Q_reads HO
  obtain ⟨i0, hi, hzz⟩ := Option.map_eq_some_iff.1 hinfo
  simp only [Prod.mk.injEq] at hzz
  obtain ⟨hz0, hz1, hz2⟩ := hzz
  have hlen : xs.length + 1 ≤ 140737488355328 := Nat.le_trans (Nat.le_mul_of_pos_right _ hb0) hl
  have hnews : ∀ j u, [Value.int .i64 p][j]? = some u → (W.alloc (.cells #[.int .i64 p] e)).cell? ((⟨W.heap.size, 0, none⟩ : Addr).add j) = some u := by
    simpa using World.news_of_block (cs := #[.int .i64 p]) (t := e) (fr := (0, 0)) (heap_alloc_new W (.cells #[.int .i64 p] e))
  have hCa : (Kd.int .i64).C (W.alloc (.cells #[.int .i64 p] e)) A xs.length xs := Kd.C_below hC ((Below.refl _ W).alloc (Nat.le_refl _) _)
  have hone : ∀ u ∈ [Value.int .i64 p], u.oneCell' = true := by intro u hu; rw [List.mem_singleton.1 hu]; rfl
  have fin : ∀ v1 w1, w1.ownsRow (W.heap.size) e 1 v1 (xs.length + 1) (xs.map (Value.int .i64) ++ [.int .i64 p]) → (W.alloc (.cells #[.int .i64 p] e)).grownBy w1 none →
      (Kd.int .i64).Q e w1 base ok v1 (xs ++ [p]) ∧ Below base w0 w1 ∧ W.grownBy w1 (Value.slice A xs.length c).ownBlock ∧ (v1.ownBlock = (Value.slice A xs.length c).ownBlock ∨ ∃ b, v1.ownBlock = some b ∧ W.heap.size ≤ b) := by
    intro v1 w1 hown hg
    have hg' : W.grownBy w1 none := World.grownBy.trans (World.grownBy_alloc W _ _) hg
    have hR : (Kd.int .i64).R e w1 base ok v1 (xs ++ [p]) := by
      refine Kd.R_of_own ?_ (fun k hk => hfresh k (own_base hown k hk))
      have := own_weaken hown hbase
      simpa [encs] using this
    refine ⟨Kd.Q_of_R hR, HB.grown hg' hbase (fun k e => by cases e), ⟨hg'.os, hg'.tape, hg'.output, hg'.size, fun k hk _ => hg'.block k hk (by simp)⟩, ?_⟩
    rcases hown.2 with ⟨_, h0⟩ | ⟨g, cap, cur, rfl, hb, _⟩
    · omega
    · exact .inr ⟨g, by simp [Value.ownBlock], hb⟩
  cases A with
  | none =>
    have h0 : xs = [] := by
      cases xs with
      | nil => rfl
      | cons x xs => obtain ⟨ad, e, _⟩ := hC.2.2 (by simp); cases e
    subst h0
    obtain ⟨v1, w1, hr, h1, h2, _⟩ := run_append_own (P := P) (W.alloc (.cells #[.int .i64 p] e)) W.heap.size t ty e i0 z 1 bytes ht hi hz0 hz1 hz2 hz (by omega) (.slice none 0 0) 0 [] (own_nil _ _ _ _) ⟨W.heap.size, 0, none⟩ 1 1 [.int .i64 p] rfl hnews hone (by unfold maxLen; omega) (by simpa using hl) (by simp)
    have hg : (W.alloc (.cells #[.int .i64 p] e)).grownBy w1 none := h2
    exact ⟨v1, w1, hr, fin v1 w1 (by simpa using h1) hg⟩
  | some a =>
    have holds : ∀ j u, (xs.map (Value.int .i64))[j]? = some u → (W.alloc (.cells #[.int .i64 p] e)).cell? (a.add j) = some u := by
      intro j u hu
      obtain ⟨x, hx, rfl⟩ : ∃ x, xs[j]? = some x ∧ .int .i64 x = u := by
        rw [List.getElem?_map] at hu; cases h : xs[j]? with
        | none => rw [h] at hu; cases hu
        | some x => rw [h] at hu; exact ⟨x, rfl, by simpa using hu⟩
      obtain ⟨ad, e1, hcc⟩ := hCa.2.2 (by have := (List.getElem?_eq_some_iff.1 hx).1; omega)
      cases e1
      obtain ⟨cs, hl1, hk, hcell⟩ := hcc j x hx
      have hk' : cs = [.int .i64 x] := hk
      have := hcell 0 _ (by rw [hk']; rfl)
      simpa [Kd.int, Kd.scalar] using this
    obtain ⟨v1, w1, hr, h1, h2⟩ := run_append_arg_grows (P := P) (w := W.alloc (.cells #[.int .i64 p] e)) t ty e i0 z 1 bytes ht hi hz0 hz1 hz2 hz (by omega) a xs.length xs.length (xs.map (Value.int .i64)) (by simp) holds ⟨W.heap.size, 0, none⟩ 1 1 [.int .i64 p] rfl hnews (by omega) (by unfold maxLen; omega) hl
    exact ⟨v1, w1, hr, fin v1 w1 (own_weaken h1 (by simp)) h2⟩

theorem Q_append3 (d : Kd Int) (hd : d = Kd.int .i64) {P : Program} {ops : Array Oper} {o : Oper} {rest : List Oper} {a : Act} {Q' : Exit → Act → World → Prop} {w0 W : World} (base : Nat) (hgd : o.guard = none) (s x : Operand) (t e : TypeId) (z : Value) (bytes : Nat)
    (ho : o.op = .call { callee := .builtin .append, args := #[s, x], argTypes := #[t, t] })
    (ht : P.underlying t = some (.slice e)) (hinfo : (P.info? e).map (fun i => (i.zero, i.size, i.bytes)) = some (some z, d.sz, bytes)) (hz : z.cells.size = d.sz) (_hs0 : 0 < d.sz) (hb0 : 0 < bytes)
    (v : Value) (xs : List Int) (p : Int) (cs : List Value) (ok okp : Nat → Prop) (hs : a.eval s = cutcap v) (hx : a.eval x = .slice (some ⟨W.heap.size, 0, none⟩) 1 1) (hp : d.M W base okp p cs) (hokp : ∀ k, okp k → ok k ∧ some k ≠ v.ownBlock) (hfresh : ∀ k, W.heap.size ≤ k → ok k)
    (HO : d.Q e W base ok v xs) (HB : Below base w0 W) (hbase : base ≤ W.heap.size) (hl : (xs.length + 1) * bytes ≤ 140737488355328)
    (h : ∀ v1 w1, d.Q e w1 base ok v1 (xs ++ [p]) → Below base w0 w1 → W.grownBy w1 v.ownBlock → (v1.ownBlock = v.ownBlock ∨ ∃ b, v1.ownBlock = some b ∧ W.heap.size ≤ b) → wpList P ops Q' rest (a.put o.dst v1) w1) :
    wpList P ops Q' (o :: rest) a (W.alloc (.cells cs.toArray e)) := by
  subst hd
  have hcs : cs = [.int .i64 p] := hp
  subst hcs
  obtain ⟨v1, w1, hr, h1, h2, h3, h4⟩ := append3_run (P := P) base t o.type e z bytes ht hinfo hz hb0 v xs p ok hfresh HO HB hbase hl
  refine wpList_plain hgd fun K hK => ?_
  unfold Oper.wp execOp
  simp only [ho, resolve, invoke, builtin, Sem.run_bind, Sem.run_pure, Result.andThen_ok, List.map_toArray, List.map_cons, List.map_nil, hs, hx, hr]
  exact hK _ _ (h v1 w1 h1 h2 h3 h4)

end Go.Proofs.Ytngglgkemonibaa.P
