/- RN: arrays of three numbers, and cuts, compared. R37: rest.replay. -/
import Derived.Test.YtnmocjhpbobahaaQ14
import Derived.Laws.Sem
import Derived.Test.YtnmocjhpbobahaaQ22
set_option linter.unusedVariables false
set_option linter.unusedSimpArgs false
set_option linter.unnecessarySimpa false
namespace Go.Proofs.Ytnmocjhpbobahaa.L
open Go Go.RowKit
set_option maxRecDepth 100000
theorem pv_bind {α β : Type} (P : Program) (s : Sem α) (f : α → Sem β) : pv P (s >>= f) = (pv P s).bind fun b => pv P (f b) := by
  show pv P (Sem.bind s f) = _
  induction s with
  | pure b => rfl
  | program k ih => exact ih P
  | mark m k ih => exact ih
  | _ => rfl
theorem pv_pure {α : Type} (P : Program) (a : α) : pv P (pure a : Sem α) = some a := rfl
theorem pv_ite {α : Type} (P : Program) (c : Prop) [Decidable c] (s s' : Sem α) : pv P (if c then s else s') = if c then pv P s else pv P s' := by split <;> rfl
def loopB (n : Nat) (f : Nat → Sem Bool) : Sem Bool := do
  for i in [0:n] do
    if !(← f i) then return false
  pure true
def allB : List (Option Bool) → Option Bool
  | [] => some true
  | x :: l => x.bind fun b => if b = true then allB l else some false
theorem loopB_pv (P : Program) (n : Nat) (f : Nat → Sem Bool) : pv P (loopB n f) = allB ((List.range' 0 n).map fun i => pv P (f i)) := by
  unfold loopB
  simp only [Std.Legacy.Range.forIn_eq_forIn_range']
  have e : [:n].size = n := by simp [Std.Legacy.Range.size]
  rw [e]
  generalize List.range' 0 n = l
  induction l with
  | nil => rfl
  | cons i l ih =>
    rw [List.forIn_cons, List.map_cons, allB, pv_bind, pv_bind, pv_bind]
    cases pv P (f i) with
    | none => rfl
    | some b =>
      cases b with
      | true =>
        rw [pv_bind] at ih
        simpa [pv_ite, pv_pure] using ih
      | false => rfl
section
variable {σ : St Unit} {t : Nat} {x y : Operand} {d : Option Nat} {ty tz : TypeId} {pos : String} {af : Array Edge} {g : Option (Nat × Bool)}
theorem pv_eqI (k : Nat) (a a' : Int) : pv Try.prog (Op.equalIn (k + 1) 3 (.int .i64 a) (.int .i64 a')) = some (a == a') := by kernel_rfl
theorem pv_eq3 (k : Nat) (a b c a' b' c' : Int) : pv Try.prog (Op.equalIn (k + 2) 82 (.agg #[.int .i64 a, .int .i64 b, .int .i64 c]) (.agg #[.int .i64 a', .int .i64 b', .int .i64 c'])) = pv Try.prog (loopB 3 fun i => do
    Op.equalIn (k + 1) 3 (← part 3 #[.int .i64 a, .int .i64 b, .int .i64 c] (i * 1)) (← part 3 #[.int .i64 a', .int .i64 b', .int .i64 c'] (i * 1))) := by
  have u : pv Try.prog (underlying 82) = some (.array 3 3) := by kernel_rfl
  have z : pv Try.prog (sizeOf 3) = some 1 := by kernel_rfl
  show pv Try.prog (Op.equalIn (k + 1 + 1) _ _ _) = _
  rw [Op.equalIn, pv_bind, u]
  simp only [Option.bind_some]
  rw [pv_bind, z]
  simp only [Option.bind_some, loopB, bind_assoc]
theorem sem_neq3 {ρ : Operand → Value} {a b c a' b' c' : Int} (hx : ρ x = .agg #[.int .i64 a, .int .i64 b, .int .i64 c]) (hy : ρ y = .agg #[.int .i64 a', .int .i64 b', .int .i64 c']) : pv Try.prog (execOp ρ ⟨d, .binOp .neq 82 x y tz, ty, pos, af, g⟩) = some (.value (.bool (!(a == a' && (b == b' && c == c'))))) := by
  have e0 : pv Try.prog (eqGuard .neq 82 x y (.agg #[.int .i64 a, .int .i64 b, .int .i64 c]) (.agg #[.int .i64 a', .int .i64 b', .int .i64 c'])) = some () := by kernel_rfl
  have e1 : binOp .neq 82 (.agg #[.int .i64 a, .int .i64 b, .int .i64 c]) (.agg #[.int .i64 a', .int .i64 b', .int .i64 c']) = (do pure (.bool (!(← Op.equal 82 (.agg #[.int .i64 a, .int .i64 b, .int .i64 c]) (.agg #[.int .i64 a', .int .i64 b', .int .i64 c']))))) := rfl
  have e2 := pv_eq3 9998 a b c a' b' c'
  have p0 : ∀ (u v w : Int), pv Try.prog (part 3 #[.int .i64 u, .int .i64 v, .int .i64 w] (0 * 1)) = some (.int .i64 u) := fun u v w => by kernel_rfl
  have p1 : ∀ (u v w : Int), pv Try.prog (part 3 #[.int .i64 u, .int .i64 v, .int .i64 w] (1 * 1)) = some (.int .i64 v) := fun u v w => by kernel_rfl
  have p2 : ∀ (u v w : Int), pv Try.prog (part 3 #[.int .i64 u, .int .i64 v, .int .i64 w] (2 * 1)) = some (.int .i64 w) := fun u v w => by kernel_rfl
  simp only [execOp, hx, hy, e1, pv_bind, e0, Option.bind_some]
  rw [show Op.equal 82 (.agg #[.int .i64 a, .int .i64 b, .int .i64 c]) (.agg #[.int .i64 a', .int .i64 b', .int .i64 c']) = Op.equalIn (9998 + 2) 82 (.agg #[.int .i64 a, .int .i64 b, .int .i64 c]) (.agg #[.int .i64 a', .int .i64 b', .int .i64 c']) from rfl, e2, loopB_pv]
  simp only [List.range', List.map_cons, List.map_nil, pv_bind, p0, p1, p2, Nat.zero_add, Nat.reduceAdd, Option.bind_some, pv_eqI, allB, pv_pure]
  cases (a == a') <;> cases (b == b') <;> cases (c == c') <;> rfl
def same3 (a b c a' b' c' : Int) : Bool := a == a' && (b == b' && c == c')
theorem same3_iff {a b c a' b' c' : Int} : same3 a b c a' b' c' = true ↔ a = a' ∧ b = b' ∧ c = c' := by simp [same3]
def neq3 (u v : Option Value) (t : Nat) (z : Option (Eff Unit)) : Option (Eff Unit) := match u, v with
  | some (.agg ⟨[.int .i64 a, .int .i64 b, .int .i64 c]⟩), some (.agg ⟨[.int .i64 a', .int .i64 b', .int .i64 c']⟩) => some (effP t (bv (!(same3 a b c a' b' c'))))
  | _, _ => z
@[simp] theorem neq3_i (a b c a' b' c' : Int) (t : Nat) (z : Option (Eff Unit)) : neq3 (some (.agg #[.int .i64 a, .int .i64 b, .int .i64 c])) (some (.agg #[.int .i64 a', .int .i64 b', .int .i64 c'])) t z = some (effP t (bv (!(same3 a b c a' b' c')))) := rfl
@[simp] theorem eff_neq3 : effPure Try.prog σ t ⟨d, .binOp .neq 82 x y tz, ty, pos, af, g⟩ = neq3 (valOf σ x) (valOf σ y) t (effZ Try.prog σ t ⟨d, .binOp .neq 82 x y tz, ty, pos, af, g⟩) := by
  unfold neq3
  split
  · next a b c a' b' c' hx hy =>
    unfold effPure
    rw [if_pos (by simp [pureOp, Op.operands, hx, hy, -valOf])]
    rw [sem_neq3 (ρ := fun x => (valOf σ x).getD undef) (a := a) (b := b) (c := c) (a' := a') (b' := b') (c' := c') (by show (valOf σ x).getD undef = _; rw [hx]; rfl) (by show (valOf σ y).getD undef = _; rw [hy]; rfl)]
    rfl
  · rfl
end
end Go.Proofs.Ytnmocjhpbobahaa.L
namespace Go.Proofs.Ytnmocjhpbobahaa.L
open Go Go.RowKit
set_option maxRecDepth 100000
set_option maxHeartbeats 4000000
theorem same3_t {a b c a' b' c' : Int} (h : same3 a b c a' b' c' = true) : same3 a b c a' b' c' = true := h
theorem same3_f {a b c a' b' c' : Int} (h : same3 a b c a' b' c' = false) : same3 a b c a' b' c' = false := h
attribute [local simp] lendO same3_t same3_f
/-- Is it a triangle's corners? -/
def okAt (n : Nat) (e : Cu) : Prop := 0 ≤ e.1 ∧ e.1 < e.2.1 ∧ e.2.1 < e.2.2.1 ∧ e.2.2.1 < n
instance (n : Nat) (e : Cu) : Decidable (okAt n e) := by unfold okAt; infer_instance
def sameO (e f : Cu) : Bool := same3 e.2.2.2.1 e.2.2.2.2.1 e.2.2.2.2.2 f.2.2.2.1 f.2.2.2.2.1 f.2.2.2.2.2
/-- One cut that is told is done. -/
def stepF (n : Nat) (r : Rst) (e : Cu) : Option Rst :=
  if okAt n e ∧ (cutF r e.1.toNat e.2.1.toNat e.2.2.1.toNat).2 = true ∧ sameO (cutF r e.1.toNat e.2.1.toNat e.2.2.1.toNat).1 e = true ∧ (doF r e).2 = true then some (doF r e).1 else none
def replF (n : Nat) : Rst → List Cu → Rst × Nat
  | r, [] => (r, 0)
  | r, e :: l => match stepF n r e with
    | some r' => ((replF n r' l).1, (replF n r' l).2 + 1)
    | none => (r, 0)
theorem maxL3 (p q s : Int) : maxL [p, q, s] = max (max p q) s := rfl
noncomputable abbrev ERepl : Env := ext (ext (ext (ext (ext (ext env0 43 specCorners) 44 specMin) 45 specMax) 46 specCut) 62 specBeside) 30 specDo
theorem wRepl (n : Nat) (r0 : Rst) (h0 : RstI n r0) (hn : n ≤ 1000000) (l : List Cu) (hl : l.length ≤ 1000000) : ∃ k, Try.f37.body = some k ∧ RP (regOf Try.prog ERepl (72 + zeroN) u37) k (argsSt 0 [one (.c (rstO r0)), ⟨.one, [.c (.sl false 6 () (CL l))]⟩]) (endsAsL Try.prog Try.f37 (rstO r0) (lentSV (rstO (replF n r0 l).1) (iv (replF n r0 l).2))) := by
  refine ⟨_, rfl, ?_⟩
  generalize hQ : endsAsL Try.prog Try.f37 (rstO r0) (lentSV (rstO (replF n r0 l).1) (iv (replF n r0 l).2)) = Q
  simp only [argsSt]
  refine go ?_
  apply rp_loop (fun k σ => ∃ (i : Nat) (r : Rst), i ≤ l.length ∧ k = l.length - i ∧ RstI n r ∧ replF n r0 l = ((replF n r (l.drop i)).1, (replF n r (l.drop i)).2 + i) ∧ σ = [(0, one (.c (rstO r))), (1, ⟨.one, [.c (.sl false 6 () (CL l))]⟩), (10, ⟨.one, [.c (.sl false 6 () (CL l))]⟩), (11, iv l.length), (12, iv i)]) l.length
  · exact ⟨0, r0, by omega, by omega, h0, rfl, rfl⟩
  rintro k σ ⟨i, r, hi, rfl, hr, hre, rfl⟩
  have c1 := hr.near
  by_cases hil : i < l.length
  · have hd : l.drop i = l[i] :: l.drop (i + 1) := List.drop_eq_getElem_cons hil
    rw [← cuAt_eq hil] at hd
    rw [hd] at hre
    generalize hE : cuAt l i = e at *
    have stop : stepF n r e = none → replF n r0 l = (r, i) := fun h => by rw [hre, replF, h]; simp
    have on : ∀ r', stepF n r e = some r' → replF n r0 l = ((replF n r' (l.drop (i + 1))).1, (replF n r' (l.drop (i + 1))).2 + (i + 1)) := fun r' h => by rw [hre, replF, h]; simp only [Prod.mk.injEq, true_and]; omega
    obtain ⟨A, B, C, P, Q', R⟩ := e
    refine go ?_
    rw [hE]
    refine go ?_
    by_cases h1 : minL [A, B, C] < 0
    · rw [stop (by unfold stepF; rw [if_neg (fun h => by have := h.1; unfold okAt at this; rw [minL3] at h1; simp only at this; omega)])] at hQ
      refine go ?_
      show Q .ret _
      refine finL_ret hQ rfl rfl rfl
    by_cases h2 : (r.near.length : Int) ≤ maxL [A, B, C]
    · rw [stop (by unfold stepF; rw [if_neg (fun h => by have := h.1; unfold okAt at this; rw [maxL3] at h2; simp only at this; omega)])] at hQ
      refine go ?_
      show Q .ret _
      refine finL_ret hQ rfl rfl rfl
    by_cases h3 : B ≤ A
    · rw [stop (by unfold stepF; rw [if_neg (fun h => by have := h.1; unfold okAt at this; simp only at this; omega)])] at hQ
      refine go ?_
      show Q .ret _
      refine finL_ret hQ rfl rfl rfl
    by_cases h4 : C ≤ B
    · rw [stop (by unfold stepF; rw [if_neg (fun h => by have := h.1; unfold okAt at this; simp only at this; omega)])] at hQ
      refine go ?_
      show Q .ret _
      refine finL_ret hQ rfl rfl rfl
    rw [minL3] at h1
    rw [maxL3] at h2
    obtain ⟨a, rfl⟩ : ∃ a : Nat, A = (a : Int) := ⟨A.toNat, by omega⟩
    obtain ⟨b, rfl⟩ : ∃ b : Nat, B = (b : Int) := ⟨B.toNat, by omega⟩
    obtain ⟨c, rfl⟩ : ∃ c : Nat, C = (c : Int) := ⟨C.toNat, by omega⟩
    have an : a < n := by omega
    have bn : b < n := by omega
    have cn : c < n := by omega
    have tri : TriOk r a b c := ⟨n, hr.toRstOk, hn, an, bn, cn⟩
    have hok : okAt n ((a : Int), (b : Int), (c : Int), P, Q', R) := by unfold okAt; simp only; omega
    have h1' : ¬ minL [(a : Int), (b : Int), (c : Int)] < 0 := by rw [minL3]; omega
    have h2' : ¬ (r.near.length : Int) ≤ maxL [(a : Int), (b : Int), (c : Int)] := by rw [maxL3]; omega
    cases hk : (cutF r a b c).2 with
    | false =>
      rw [stop (by unfold stepF; rw [if_neg (fun h => by have := h.2.1; simp only [Int.toNat_natCast] at this; rw [hk] at this; cases this)])] at hQ
      refine go ?_
      simp only [hk]
      refine go ?_
      show Q .ret _
      refine finL_ret hQ rfl rfl rfl
    | true =>
      obtain ⟨p, q, s, he, k⟩ := cutI hr.toRstS (by omega) (by omega) cn (e := (cutF r a b c).1) (Prod.ext rfl hk)
      have hcut : cutF r a b c = (((a : Int), (b : Int), (c : Int), p, q, s), true) := Prod.ext he hk
      cases hs : same3 p q s P Q' R with
      | false =>
        rw [stop (by unfold stepF; rw [if_neg (fun h => by have := h.2.2.1; simp only [Int.toNat_natCast] at this; rw [hcut] at this; unfold sameO at this; simp only at this; rw [hs] at this; cases this)])] at hQ
        refine go ?_
        simp only [hcut]
        refine go ?_
        show Q .ret _
        refine finL_ret hQ rfl rfl rfl
      | true =>
        obtain ⟨rfl, rfl, rfl⟩ := same3_iff.1 hs
        have dok : DoOk r ((a : Int), (b : Int), (c : Int), p, q, s) := ⟨n, a, b, c, p, q, s, hr, hn, rfl, k⟩
        have hstep : stepF n r ((a : Int), (b : Int), (c : Int), p, q, s) = if (doF r ((a : Int), (b : Int), (c : Int), p, q, s)).2 = true then some (doF r ((a : Int), (b : Int), (c : Int), p, q, s)).1 else none := by
          unfold stepF
          simp only [Int.toNat_natCast, hcut, hok, true_and]
          rw [show sameO ((a : Int), (b : Int), (c : Int), p, q, s) ((a : Int), (b : Int), (c : Int), p, q, s) = true from hs]
          simp
        have hds := do_step hr k
        have hdn := doF_no hr k
        refine go ?_
        simp only [hcut]
        refine go ?_
        cases hf : (doF r ((a : Int), (b : Int), (c : Int), p, q, s)).2 with
        | false =>
          have hr' := hdn hf
          rw [stop (by rw [hstep, hf]; rfl)] at hQ
          refine go ?_
          rw [hr']
          show Q .ret _
          refine finL_ret hQ rfl rfl rfl
        | true =>
          refine go ?_
          exact nxt (l.length - (i + 1)) (by omega) ⟨i + 1, _, by omega, rfl, hds.1, on _ (by rw [hstep, hf]; rfl), rfl⟩
  obtain rfl : i = l.length := by omega
  rw [List.drop_length] at hre
  rw [show replF n r0 l = (r, l.length) by rw [hre]; simp [replF]] at hQ
  refine go ?_
  show Q .ret _
  refine finL_ret hQ rfl rfl rfl
theorem ERepl_ok : EnvOk Try.prog ERepl := ext_ok (ext_ok (ext_ok (ext_ok (ext_ok (ext_ok env0_ok okCorners) okMin) okMax) okCut) okBeside) okDo
def ReplOk (r : Rst) (l : List Cu) : Prop := RstI r.near.length r ∧ r.near.length ≤ 1000000 ∧ l.length ≤ 1000000
noncomputable def specRepl : Spec := fun us => match us with
  | [x, y] => match asRstO x, asCuts y with
    | some r, some l => whenC (ReplOk r l) (lentSV (rstO (replF r.near.length r l).1) (iv (replF r.near.length r l).2))
    | _, _ => none
  | _ => none
theorem okRepl : SpecOk 37 specRepl := by
  intro us R h
  unfold specRepl at h
  split at h
  · split at h
    · next x y _ r l h1 h2 =>
      obtain ⟨⟨hr, hn, hl⟩, rfl⟩ := whenC_eq h
      rw [asRstO_eq h1, asCuts_eq h2]
      have := wRepl _ r hr hn l hl
      show GoodE Try.prog 37 (one (.c (rstO r)) :: _) _
      unfold GoodE
      exact goodBy2L ERepl_ok Try.func37 rfl (Nat.le_of_ble_eq_true rfl) (by decide) this
    · cases h
  · cases h
@[simp] theorem sReplR {r : Rst} {l : List Cu} (h : ReplOk r l) : specRepl [⟨.one, [.c (rstO r)]⟩, ⟨.one, [.c (.sl false 6 () (CL l))]⟩] = some (lentSV (rstO (replF r.near.length r l).1) (iv (replF r.near.length r l).2)) := by
  unfold specRepl
  have := asCuts_cuts l
  unfold cuts at this
  simp only [asRstO_rst, this]
  exact whenC_pos _ h
@[simp] theorem sReplF {l : List (Cell Unit)} {y : SV Unit} : specRepl [⟨.one, [.c (.bx false () l)]⟩, y] = none := by
  unfold specRepl
  simp only [asRstO_fro]
@[simp] theorem callRepl {E : Env} {σ : St Unit} {t : Nat} {l : List Operand} : effCall Try.prog E ΩU σ t 37 l = callO E 37 t (argsOf Try.prog ΩU σ [63, 33] l) := eff_call Try.func37 Try.params37
@[simp] theorem lendRepl {E : Env} {σ : St Unit} {t s : Nat} {l : List Operand} : effLend Try.prog E ΩU σ t 37 (.tmp s :: l) = lendO E σ t s 37 [33] l := eff_lend Try.func37 Try.params37
end Go.Proofs.Ytnmocjhpbobahaa.L
