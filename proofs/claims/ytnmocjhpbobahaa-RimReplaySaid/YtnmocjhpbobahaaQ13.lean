/- R51: rest.has, rest.inner, Cut.corners, Cut.beside. R74: rest.drop, rest.join. R55: rest.join. RL: drop and join as calls. R54: rest.leave. RL2: leave as a call; join where it is lent. RL3: join, as a plain law. UA: rows of rows of truth values; the document's table (layer 20). U59: Rest.Near, Rest.Count, Rest.inner of the document's table. U58: Rest.Count, Rest.inner, Rest.joins of the document's table. U34: Rest.Four, Rest.Fits of the document's table. -/
import Derived.Test.YtnmocjhpbobahaaQ9
import Derived.Test.YtnmocjhpbobahaaQ12
set_option linter.unusedVariables false
set_option linter.unusedSimpArgs false
set_option linter.unnecessarySimpa false
namespace Go.Proofs.Ytnmocjhpbobahaa.L
open Go Go.RowKit
set_option maxRecDepth 100000
set_option maxHeartbeats 4000000
abbrev rf (r : Rst) : SV Unit := ⟨.one, [.c (rstF r)]⟩
abbrev EHas : Env := ext env0 70 specBs
theorem wHas (n : Nat) (r : Rst) (hr : RstOk n r) (hn : n ≤ 1000000) (a : Nat) (b : Int) (ha : a < n) : ∃ c, Try.f51.body = some c ∧ RP (regOf Try.prog EHas 22 u51) c (argsSt 0 [rf r, iv a, iv b]) (endsAs Try.prog Try.f51 (bv (decide (b ∈ nthR r.near a)))) := by
  refine ⟨_, rfl, ?_⟩
  generalize hQ : endsAs Try.prog Try.f51 (bv (decide (b ∈ nthR r.near a))) = Q
  simp only [argsSt]
  have h1 := hr.near
  have h2 := hr.le ha
  have h3 := hr.len ha
  have h4 : a < r.near.length := by omega
  have h5 : (nthR r.near a).length ≤ 17592186043904 := by omega
  refine go ?_
  show Q .ret _; refine fin_ret hQ rfl ?_
  rfl
theorem wInner (n : Nat) (r : Rst) (hr : RstOk n r) (hn : n ≤ 1000000) (v : Nat) (hv : v < n) : ∃ c, Try.f72.body = some c ∧ RP (regOf Try.prog env0 24 u72) c (argsSt 0 [rf r, iv v]) (endsAs Try.prog Try.f72 (bv (decide (nth r.mark v = 2 ∨ 3 < (nthR r.near v).length)))) := by
  refine ⟨_, rfl, ?_⟩
  generalize hQ : endsAs Try.prog Try.f72 (bv (decide (nth r.mark v = 2 ∨ 3 < (nthR r.near v).length))) = Q
  simp only [argsSt]
  have h1 := hr.near
  have h2 := hr.mark
  have h4 : v < r.near.length := by omega
  have h5 : v < r.mark.length := by omega
  by_cases hm : nth r.mark v = 2
  · refine go ?_
    show Q .ret _; refine fin_ret hQ rfl ?_
    rw [decide_eq_true (Or.inl hm)]; rfl
  · by_cases h3 : 3 < (nthR r.near v).length
    · refine go ?_
      show Q .ret _; refine fin_ret hQ rfl ?_
      rw [decide_eq_true (Or.inr h3)]; rfl
    · refine go ?_
      show Q .ret _; refine fin_ret hQ rfl ?_
      rw [decide_eq_false (fun h => h.elim hm h3)]; rfl
theorem wCorners (a b c p q s : Int) : ∃ k, Try.f43.body = some k ∧ RP (regOf Try.prog env0 10 u43) k (argsSt 0 [⟨.agg, [.c (.sc (.int .i64 a)), .c (.sc (.int .i64 b)), .c (.sc (.int .i64 c)), .c (.sc (.int .i64 p)), .c (.sc (.int .i64 q)), .c (.sc (.int .i64 s))]⟩]) (endsAs Try.prog Try.f43 (a3 a b c)) := by
  refine ⟨_, rfl, ?_⟩
  generalize hQ : endsAs Try.prog Try.f43 (a3 a b c) = Q
  simp only [argsSt]
  refine go ?_
  show Q .ret _; refine fin_ret hQ rfl ?_
  rfl
theorem wBeside (a b c p q s : Int) : ∃ k, Try.f62.body = some k ∧ RP (regOf Try.prog env0 10 u62) k (argsSt 0 [⟨.agg, [.c (.sc (.int .i64 a)), .c (.sc (.int .i64 b)), .c (.sc (.int .i64 c)), .c (.sc (.int .i64 p)), .c (.sc (.int .i64 q)), .c (.sc (.int .i64 s))]⟩]) (endsAs Try.prog Try.f62 (a3 p q s)) := by
  refine ⟨_, rfl, ?_⟩
  generalize hQ : endsAs Try.prog Try.f62 (a3 p q s) = Q
  simp only [argsSt]
  refine go ?_
  show Q .ret _; refine fin_ret hQ rfl ?_
  rfl
/-! ### specs -/
abbrev cu6 (e : Cu) : SV Unit := ⟨.agg, [.c (.sc (.int .i64 e.1)), .c (.sc (.int .i64 e.2.1)), .c (.sc (.int .i64 e.2.2.1)), .c (.sc (.int .i64 e.2.2.2.1)), .c (.sc (.int .i64 e.2.2.2.2.1)), .c (.sc (.int .i64 e.2.2.2.2.2))]⟩
def asCu : SV Unit → Option Cu
  | ⟨.agg, [.c (.sc (.int .i64 a)), .c (.sc (.int .i64 b)), .c (.sc (.int .i64 c)), .c (.sc (.int .i64 d)), .c (.sc (.int .i64 e)), .c (.sc (.int .i64 f))]⟩ => some (a, b, c, d, e, f)
  | _ => none
theorem asCu_cu (e : Cu) : asCu (cu6 e) = some e := rfl
theorem asCu_eq {v : SV Unit} {e : Cu} (h : asCu v = some e) : v = cu6 e := by
  unfold asCu at h
  split at h
  · simp only [Option.some.injEq] at h; subst h; rfl
  · cases h
def specCorners : Spec := spec1 asCu fun e => some (a3 e.1 e.2.1 e.2.2.1)
theorem okCorners : SpecOk 43 specCorners := by
  intro us r h
  obtain ⟨x, e, rfl, he, h⟩ := spec1_eq h
  obtain rfl := Option.some.inj h
  rw [asCu_eq he]
  exact goodBy2 env0_ok Try.func43 rfl (Nat.le_of_ble_eq_true rfl) (by decide) (wCorners _ _ _ _ _ _)
@[simp] theorem sCorners (a b c d e f : Int) : specCorners [⟨.agg, [.c (.sc (.int .i64 a)), .c (.sc (.int .i64 b)), .c (.sc (.int .i64 c)), .c (.sc (.int .i64 d)), .c (.sc (.int .i64 e)), .c (.sc (.int .i64 f))]⟩] = some (a3 a b c) := rfl
@[simp] theorem callCorners {E : Env} {σ : St Unit} {t : Nat} {l : List Operand} : effCall Try.prog E ΩU σ t 43 l = callO E 43 t (argsOf Try.prog ΩU σ [59] l) := eff_call Try.func43 Try.params43
def specBeside : Spec := spec1 asCu fun e => some (a3 e.2.2.2.1 e.2.2.2.2.1 e.2.2.2.2.2)
theorem okBeside : SpecOk 62 specBeside := by
  intro us r h
  obtain ⟨x, e, rfl, he, h⟩ := spec1_eq h
  obtain rfl := Option.some.inj h
  rw [asCu_eq he]
  exact goodBy2 env0_ok Try.func62 rfl (Nat.le_of_ble_eq_true rfl) (by decide) (wBeside _ _ _ _ _ _)
@[simp] theorem sBeside (a b c d e f : Int) : specBeside [⟨.agg, [.c (.sc (.int .i64 a)), .c (.sc (.int .i64 b)), .c (.sc (.int .i64 c)), .c (.sc (.int .i64 d)), .c (.sc (.int .i64 e)), .c (.sc (.int .i64 f))]⟩] = some (a3 d e f) := rfl
@[simp] theorem callBeside {E : Env} {σ : St Unit} {t : Nat} {l : List Operand} : effCall Try.prog E ΩU σ t 62 l = callO E 62 t (argsOf Try.prog ΩU σ [59] l) := eff_call Try.func62 Try.params62
noncomputable section
def whenC (p : Prop) (r : SV Unit) : Option (SV Unit) := @ite _ p (Classical.propDecidable p) (some r) none
theorem whenC_eq {p : Prop} {r r' : SV Unit} (h : whenC p r = some r') : p ∧ r = r' := by
  unfold whenC at h
  split at h
  · next hp => exact ⟨hp, by simpa using h⟩
  · cases h
theorem whenC_pos {p : Prop} (r : SV Unit) (h : p) : whenC p r = some r := by unfold whenC; rw [if_pos h]
def specHas : Spec := fun us => match us with
  | [x, y, z] => match asRst x, asInt y, asInt z with
    | some r, some a, some b => whenC (0 ≤ a ∧ ∃ n : Nat, RstOk n r ∧ n ≤ 1000000 ∧ a < n) (bv (decide (b ∈ nthR r.near a.toNat)))
    | _, _, _ => none
  | _ => none
theorem okHas : SpecOk 51 specHas := by
  intro us r h
  unfold specHas at h
  split at h
  · split at h
    · next x y z _ r' a b h1 h2 h3 =>
      obtain ⟨⟨h4, n, h5, h6, h7⟩, rfl⟩ := whenC_eq h
      rw [asRst_eq h1, asInt_eq h2, asInt_eq h3]
      have := wHas n r' h5 h6 a.toNat b (by omega)
      rw [show (a.toNat : Int) = a by omega] at this
      exact goodBy2 (ext_ok env0_ok okBs) Try.func51 rfl (Nat.le_of_ble_eq_true rfl) (by decide) this
    · cases h
  · cases h
theorem sHas {n : Nat} {r : Rst} (hr : RstOk n r) (hn : n ≤ 1000000) (a : Nat) (b : Int) (ha : a < n) : specHas [rf r, iv a, iv b] = some (bv (decide (b ∈ nthR r.near a))) := by
  unfold specHas
  simp only [asRst_rst, asInt_iv]
  exact whenC_pos _ ⟨by omega, n, hr, hn, by omega⟩
def specInner : Spec := fun us => match us with
  | [x, y] => match asRst x, asInt y with
    | some r, some a => whenC (0 ≤ a ∧ ∃ n : Nat, RstOk n r ∧ n ≤ 1000000 ∧ a < n) (bv (decide (nth r.mark a.toNat = 2 ∨ 3 < (nthR r.near a.toNat).length)))
    | _, _ => none
  | _ => none
theorem okInner : SpecOk 72 specInner := by
  intro us r h
  unfold specInner at h
  split at h
  · split at h
    · next x y _ r' a h1 h2 =>
      obtain ⟨⟨h4, n, h5, h6, h7⟩, rfl⟩ := whenC_eq h
      rw [asRst_eq h1, asInt_eq h2]
      have := wInner n r' h5 h6 a.toNat (by omega)
      rw [show (a.toNat : Int) = a by omega] at this
      exact goodBy2 env0_ok Try.func72 rfl (Nat.le_of_ble_eq_true rfl) (by decide) this
    · cases h
  · cases h
theorem sInner {n : Nat} {r : Rst} (hr : RstOk n r) (hn : n ≤ 1000000) (a : Nat) (ha : a < n) : specInner [rf r, iv a] = some (bv (decide (nth r.mark a = 2 ∨ 3 < (nthR r.near a).length))) := by
  unfold specInner
  simp only [asRst_rst, asInt_iv]
  exact whenC_pos _ ⟨by omega, n, hr, hn, by omega⟩
end
@[simp] theorem callHas {E : Env} {σ : St Unit} {t : Nat} {l : List Operand} : effCall Try.prog E ΩU σ t 51 l = callO E 51 t (argsOf Try.prog ΩU σ [63, 3, 3] l) := eff_call Try.func51 Try.params51
@[simp] theorem callInner {E : Env} {σ : St Unit} {t : Nat} {l : List Operand} : effCall Try.prog E ΩU σ t 72 l = callO E 72 t (argsOf Try.prog ΩU σ [63, 3] l) := eff_call Try.func72 Try.params72
end Go.Proofs.Ytnmocjhpbobahaa.L
namespace Go.Proofs.Ytnmocjhpbobahaa.L
open Go Go.RowKit
set_option maxRecDepth 100000
set_option maxHeartbeats 4000000
@[simp] theorem und122 : Try.prog.underlying 122 = some (.array 2 3) := by kernel_rfl
@[simp] theorem cells122 : Try.prog.cellsOf 122 = 2 := by kernel_rfl
@[simp] theorem zero122 : zeroCellsOf Try.prog () 122 = some [.sc (.int .i64 0), .sc (.int .i64 0)] := by kernel_rfl
@[simp] theorem infos122 : infosOk Try.prog 122 = true := by kernel_rfl
@[simp] theorem und123 : Try.prog.underlying 123 = some (.array 2 122) := by kernel_rfl
@[simp] theorem cells123 : Try.prog.cellsOf 123 = 4 := by kernel_rfl
@[simp] theorem zero123 : zeroCellsOf Try.prog () 123 = some [.sc (.int .i64 0), .sc (.int .i64 0), .sc (.int .i64 0), .sc (.int .i64 0)] := by kernel_rfl
@[simp] theorem infos123 : infosOk Try.prog 123 = true := by kernel_rfl
abbrev a2 (a b : Int) : SV Unit := ⟨.agg, [.c (.sc (.int .i64 a)), .c (.sc (.int .i64 b))]⟩
def idx22 (u v : Option Value) (t : Nat) (z : Option (Eff Unit)) : Option (Eff Unit) := match u, v with
  | some (.agg ⟨[.int .i64 a, .int .i64 b, .int .i64 c, .int .i64 e]⟩), some (.int .i64 i) => if i = 0 then some (effP t (a2 a b)) else if i = 1 then some (effP t (a2 c e)) else z
  | _, _ => z
@[simp] theorem idx22_i (a b c e i : Int) (t : Nat) (z : Option (Eff Unit)) : idx22 (some (.agg #[.int .i64 a, .int .i64 b, .int .i64 c, .int .i64 e])) (some (.int .i64 i)) t z = if i = 0 then some (effP t (a2 a b)) else if i = 1 then some (effP t (a2 c e)) else z := rfl
section
variable {σ : St Unit} {t : Nat} {x y : Operand} {d : Option Nat} {ty : TypeId} {pos : String} {af : Array Edge} {g : Option (Nat × Bool)}
theorem sem_idx22 {ρ : Operand → Value} {a b c e i : Int} (hx : ρ x = .agg #[.int .i64 a, .int .i64 b, .int .i64 c, .int .i64 e]) (hy : ρ y = .int .i64 i) : (i = 0 → pv Try.prog (execOp ρ ⟨d, .index 123 x y, ty, pos, af, g⟩) = some (.value (.agg #[.int .i64 a, .int .i64 b]))) ∧ (i = 1 → pv Try.prog (execOp ρ ⟨d, .index 123 x y, ty, pos, af, g⟩) = some (.value (.agg #[.int .i64 c, .int .i64 e]))) := by
  refine ⟨?_, ?_⟩ <;> (rintro rfl; simp only [execOp, hx, hy]; kernel_rfl)
@[simp] theorem eff_idx22 : effPure Try.prog σ t ⟨d, .index 123 x y, ty, pos, af, g⟩ = idx22 (valOf σ x) (valOf σ y) t (effZ Try.prog σ t ⟨d, .index 123 x y, ty, pos, af, g⟩) := by
  unfold idx22
  split
  · next a b c e i hx hy =>
    have key : ∀ u v, pv Try.prog (execOp (fun x => (valOf σ x).getD undef) ⟨d, .index 123 x y, ty, pos, af, g⟩) = some (.value (.agg #[.int .i64 u, .int .i64 v])) → effPure Try.prog σ t ⟨d, .index 123 x y, ty, pos, af, g⟩ = some (effP t (a2 u v)) := by
      intro u v h
      unfold effPure
      rw [if_pos (by simp [pureOp, Op.operands, hx, hy, -valOf]), h]
      rfl
    obtain ⟨h0, h1⟩ := sem_idx22 (x := x) (y := y) (d := d) (ty := ty) (pos := pos) (af := af) (g := g) (ρ := fun x => (valOf σ x).getD undef) (a := a) (b := b) (c := c) (e := e) (i := i) (by show (valOf σ x).getD undef = _; rw [hx]; rfl) (by show (valOf σ y).getD undef = _; rw [hy]; rfl)
    split
    · next q => exact key a b (h0 q)
    · split
      · next q => exact key c e (h1 q)
      · rfl
  · rfl
end
/-- What lies ahead of a number in a rising row, and behind it. -/
theorem cut_erase {l : List Int} {v : Int} (hs : l.Pairwise (· < ·)) (hm : v ∈ l) : List.take (lowI l v) l ++ List.take (l.length - (lowI l v + 1)) (List.drop (lowI l v + 1) l) = l.erase v := by
  have e : List.take (l.length - (lowI l v + 1)) (List.drop (lowI l v + 1) l) = List.drop (lowI l v + 1) l := List.take_of_length_le (by rw [List.length_drop]; omega)
  rw [e]
  clear e
  induction l with
  | nil => cases hm
  | cons x l ih =>
    rw [List.pairwise_cons] at hs
    unfold lowI
    rw [List.takeWhile_cons]
    by_cases hx : x < v
    · have hne : x ≠ v := by omega
      simp only [hx, decide_true, if_true, List.length_cons, List.take_succ_cons, List.drop_succ_cons, List.cons_append]
      rw [List.erase_cons_tail (by simpa using hne)]
      congr 1
      have hm' : v ∈ l := by
        rcases List.mem_cons.1 hm with rfl | h
        · omega
        · exact h
      exact ih hs.2 hm'
    · have hxv : x = v := by
        rcases List.mem_cons.1 hm with rfl | h
        · rfl
        · have := hs.1 v h; omega
      subst hxv
      simp
theorem nthR_set {l : List (List Int)} {i j : Nat} {x : List Int} (hi : i < l.length) : nthR (l.set i x) j = if i = j then x else nthR l j := by
  unfold nthR
  simp only [List.getD_eq_getElem?_getD, List.getElem?_set]
  split
  · next h => subst h; simp [hi]
  · rfl
abbrev EDrop : Env := ext (ext env0 70 specBs) 75 specConcat

theorem wDrop (n : Nat) (r : Rst) (hr : RstOk n r) (hn : n ≤ 1000000) (a b : Nat) (ha : a < n) (hb : b < n) (hab : a ≠ b) (h1 : (b : Int) ∈ nthR r.near a) (h2 : (a : Int) ∈ nthR r.near b) : ∃ c, Try.f74.body = some c ∧ RP (regOf Try.prog EDrop (65 + zeroN) u74) c (argsSt 0 [one (.c (rstO r)), iv a, iv b]) (endsAsL Try.prog Try.f74 (rstO r) (lentSV (rstO ⟨(r.near.set a ((nthR r.near a).erase b)).set b ((nthR r.near b).erase a), r.mark, r.gone, r.count⟩) (resSV []))) := by
  refine ⟨_, rfl, ?_⟩
  generalize hQ : endsAsL Try.prog Try.f74 (rstO r) (lentSV (rstO ⟨(r.near.set a ((nthR r.near a).erase b)).set b ((nthR r.near b).erase a), r.mark, r.gone, r.count⟩) (resSV [])) = Q
  simp only [argsSt]
  refine go ?_
  have c1 := hr.near
  have c2 : a < r.near.length := by omega
  have c3 := hr.le ha
  have c4 := hr.len ha
  have c5 : (nthR r.near a).length ≤ 17592186043904 := by omega
  obtain ⟨c6, c7⟩ := (low_mem c3).2 h1
  have c8 : [List.take (lowI (nthR r.near a) b) (nthR r.near a), List.take ((nthR r.near a).length - (lowI (nthR r.near a) b + 1)) (List.drop (lowI (nthR r.near a) b + 1) (nthR r.near a))].flatten.length ≤ 17592186043904 := by
    simp only [List.flatten_cons, List.flatten_nil, List.length_append, List.length_take, List.length_drop, List.length_nil]; omega
  have e1 := cut_erase (hr.rise a ha) h1
  have d0 : nthR (r.near.set a ((nthR r.near a).erase (b : Int))) b = nthR r.near b := by rw [nthR_set c2, if_neg hab]
  have d1 : b < (r.near.set a ((nthR r.near a).erase (b : Int))).length := by rw [List.length_set]; omega
  apply rp_round
  refine go ?_
  rw [e1]
  generalize r.near.set a ((nthR r.near a).erase (b : Int)) = near' at *
  have d3 := hr.le hb
  have d4 := hr.len hb
  rw [← d0] at d3 d4 h2
  obtain ⟨d6, d7⟩ := (low_mem d3).2 h2
  have d5 : (nthR near' b).length ≤ 17592186043904 := by omega
  have d8 : [List.take (lowI (nthR near' b) a) (nthR near' b), List.take ((nthR near' b).length - (lowI (nthR near' b) a + 1)) (List.drop (lowI (nthR near' b) a + 1) (nthR near' b))].flatten.length ≤ 17592186043904 := by
    simp only [List.flatten_cons, List.flatten_nil, List.length_append, List.length_take, List.length_drop, List.length_nil]; omega
  have e2 := cut_erase (by rw [d0]; exact hr.rise b hb) h2
  apply rp_round
  refine go ?_
  rw [e2]
  apply rp_round
  refine go ?_
  show Q .normal _
  rw [← d0] at hQ
  refine finL_norm hQ rfl rfl ?_
  rfl
/-- What is left without an edge. -/
def Rst.drop (r : Rst) (a b : Nat) : Rst := ⟨(r.near.set a ((nthR r.near a).erase b)).set b ((nthR r.near b).erase a), r.mark, r.gone, r.count⟩
end Go.Proofs.Ytnmocjhpbobahaa.L
namespace Go.Proofs.Ytnmocjhpbobahaa.L
open Go Go.RowKit
set_option maxRecDepth 100000
set_option maxHeartbeats 4000000
@[simp] theorem RL_mid (a c : List Int) (v : Int) : [(.sl false 1 () (IL a) : Cell Unit), .sl false 1 () [.sc (.int .i64 v)], .sl false 1 () (IL c)] = RL [a, [v], c] := rfl
/-- A number laid into a rising row. -/
def insI (l : List Int) (v : Int) : List Int := List.take (lowI l v) l ++ v :: List.take (l.length - lowI l v) (List.drop (lowI l v) l)
def Rst.join (r : Rst) (a b : Nat) : Rst := ⟨(r.near.set a (insI (nthR r.near a) b)).set b (insI (nthR r.near b) a), r.mark, r.gone, r.count⟩
theorem low_le (l : List Int) (v : Int) : lowI l v ≤ l.length := by
  unfold lowI
  exact (List.takeWhile_sublist _).length_le
theorem wJoin (n : Nat) (r : Rst) (hr : RstOk n r) (hn : n ≤ 1000000) (a b : Nat) (ha : a < n) (hb : b < n) (hab : a ≠ b) : ∃ c, Try.f55.body = some c ∧ RP (regOf Try.prog EDrop (67 + zeroN) u55) c (argsSt 0 [one (.c (rstO r)), iv a, iv b]) (endsAsL Try.prog Try.f55 (rstO r) (lentSV (rstO ⟨(r.near.set a (insI (nthR r.near a) b)).set b (insI (nthR r.near b) a), r.mark, r.gone, r.count⟩) (resSV []))) := by
  refine ⟨_, rfl, ?_⟩
  generalize hQ : endsAsL Try.prog Try.f55 (rstO r) (lentSV (rstO ⟨(r.near.set a (insI (nthR r.near a) b)).set b (insI (nthR r.near b) a), r.mark, r.gone, r.count⟩) (resSV [])) = Q
  simp only [argsSt]
  refine go ?_
  have c1 := hr.near
  have c2 : a < r.near.length := by omega
  have c3 := hr.le ha
  have c4 := hr.len ha
  have c5 : (nthR r.near a).length ≤ 17592186043904 := by omega
  have c6 := low_le (nthR r.near a) b
  have c8 : [List.take (lowI (nthR r.near a) b) (nthR r.near a), [(b : Int)], List.take ((nthR r.near a).length - lowI (nthR r.near a) b) (List.drop (lowI (nthR r.near a) b) (nthR r.near a))].flatten.length ≤ 17592186043904 := by
    simp only [List.flatten_cons, List.flatten_nil, List.length_append, List.length_take, List.length_drop, List.length_nil, List.length_cons]; omega
  have d0 : nthR (r.near.set a (insI (nthR r.near a) b)) b = nthR r.near b := by rw [nthR_set c2, if_neg hab]
  have d1 : b < (r.near.set a (insI (nthR r.near a) b)).length := by rw [List.length_set]; omega
  have e1 : List.take (lowI (nthR r.near a) b) (nthR r.near a) ++ (b : Int) :: List.take ((nthR r.near a).length - lowI (nthR r.near a) b) (List.drop (lowI (nthR r.near a) b) (nthR r.near a)) = insI (nthR r.near a) b := rfl
  apply rp_round
  refine go ?_
  rw [e1]
  generalize r.near.set a (insI (nthR r.near a) (b : Int)) = near' at *
  have d3 := hr.le hb
  have d4 := hr.len hb
  rw [← d0] at d3 d4
  have d5 : (nthR near' b).length ≤ 17592186043904 := by omega
  have d6 := low_le (nthR near' b) a
  have d8 : [List.take (lowI (nthR near' b) a) (nthR near' b), [(a : Int)], List.take ((nthR near' b).length - lowI (nthR near' b) a) (List.drop (lowI (nthR near' b) a) (nthR near' b))].flatten.length ≤ 17592186043904 := by
    simp only [List.flatten_cons, List.flatten_nil, List.length_append, List.length_take, List.length_drop, List.length_nil, List.length_cons]; omega
  have e2 : List.take (lowI (nthR near' b) a) (nthR near' b) ++ (a : Int) :: List.take ((nthR near' b).length - lowI (nthR near' b) a) (List.drop (lowI (nthR near' b) a) (nthR near' b)) = insI (nthR near' b) a := rfl
  apply rp_round
  refine go ?_
  rw [e2]
  apply rp_round
  refine go ?_
  show Q .normal _
  rw [← d0] at hQ
  refine finL_norm hQ rfl rfl ?_
  rfl
end Go.Proofs.Ytnmocjhpbobahaa.L
namespace Go.Proofs.Ytnmocjhpbobahaa.L
open Go Go.RowKit
set_option maxRecDepth 100000
set_option maxHeartbeats 4000000
/-! ### a call that is lent its first argument -/
noncomputable def lendO (E : Env) (σ : St Unit) (t s f : Nat) (ts : List TypeId) (args : List Operand) : Option (Eff Unit) :=
    if (σ.get s).k = .one then match (σ.get s).cs with
    | [x] => match x.place s 0 with
      | some (r, p) => match takeAt σ pend0 r p with
        | some (y, d) => match argsOf Try.prog ΩU ((putAll σ d.ch.reverse).kill d.kill) ts args with
          | some l => match E f (one (.c y.erase) :: l) with
            | some R => if R.ownAll ∧ y.allOwn ∧ r ≠ t then lendEff t r p y (σ.get r) R else none
            | none => none
          | none => none
        | none => none
      | none => none
    | _ => none else none
theorem eff_lend {E : Env} {σ : St Unit} {t s : Nat} {f : FuncId} {fn : Func} {ts : Array TypeId} {args : List Operand} (hf : Try.prog.funcs[f]? = some fn) (hp : fn.params = ts) : effLend Try.prog E ΩU σ t f (.tmp s :: args) = lendO E σ t s f ts.toList.tail args := by
  unfold effLend lendO
  simp only [hf, hp]
  by_cases hk : (σ.get s).k = .one
  · rw [if_pos hk, if_pos hk]
    cases (σ.get s).cs with
    | nil => rfl
    | cons x l => cases l with
      | cons _ _ => rfl
      | nil =>
        simp only
        cases x.place s 0 with
        | none => rfl
        | some rp =>
          obtain ⟨r, p⟩ := rp
          simp only
          cases takeAt σ pend0 r p with
          | none => rfl
          | some yd =>
            obtain ⟨y, d⟩ := yd
            simp only
            cases argsOf Try.prog ΩU ((putAll σ d.ch.reverse).kill d.kill) ts.toList.tail args with
            | none => rfl
            | some l => simp only; cases E f (one (.c y.erase) :: l) <;> rfl
  · rw [if_neg hk, if_neg hk]
def toOws : List (Cell Unit) → Option (List (List Int))
  | [] => some []
  | .sl true 1 _ row :: l => match toInts row, toOws l with
    | some r, some m => some (r :: m)
    | _, _ => none
  | _ => none
@[simp] theorem toOws_OL (l : List (List Int)) : toOws (OL l) = some l := by
  induction l with
  | nil => rfl
  | cons r l ih => simp only [OL, List.map_cons, toOws, toInts_map] at ih ⊢; rw [ih]
theorem toOws_eq : ∀ {row : List (Cell Unit)} {l : List (List Int)}, toOws row = some l → row = OL l := by
  intro row
  induction row with
  | nil => intro l h; simp only [toOws, Option.some.injEq] at h; subst h; rfl
  | cons c row ih =>
    intro l h
    cases c with
    | sl o sz a r =>
      by_cases ho : o = true ∧ sz = 1
      · obtain ⟨rfl, rfl⟩ := ho
        simp only [toOws] at h
        split at h
        · next r' m h1 h2 => simp only [Option.some.injEq] at h; subst h; rw [ih h2, toInts_eq h1]; rfl
        · cases h
      · exfalso
        unfold toOws at h
        split at h <;> simp_all
    | _ => simp [toOws] at h
def asRstO : SV Unit → Option Rst
  | ⟨.one, [.c (.bx true () [.sl true 1 () a, .sl true 1 () b, .sl true 1 () c, .sc (.int .i64 d)])]⟩ => match toOws a, toInts b, toBools c with
    | some a, some b, some c => some ⟨a, b, c, d⟩
    | _, _, _ => none
  | _ => none
@[simp] theorem asRstO_rst (r : Rst) : asRstO ⟨.one, [.c (rstO r)]⟩ = some r := by simp [asRstO]
theorem asRstO_eq {v : SV Unit} {r : Rst} (h : asRstO v = some r) : v = ⟨.one, [.c (rstO r)]⟩ := by
  unfold asRstO at h
  split at h
  · split at h
    · next a b c h1 h2 h3 =>
      simp only [Option.some.injEq] at h
      subst h
      rw [toOws_eq h1, toInts_eq h2, toBools_eq h3]
    · cases h
  · cases h
theorem EDrop_ok : EnvOk Try.prog EDrop := ext_ok (ext_ok env0_ok okBs) okConcat
noncomputable def specDrop : Spec := fun us => match us with
  | [x, y, z] => match asRstO x, asInt y, asInt z with
    | some r, some a, some b => whenC (0 ≤ a ∧ 0 ≤ b ∧ ∃ n : Nat, RstOk n r ∧ n ≤ 1000000 ∧ a < n ∧ b < n ∧ a ≠ b ∧ b ∈ nthR r.near a.toNat ∧ a ∈ nthR r.near b.toNat) (lentSV (rstO (r.drop a.toNat b.toNat)) (resSV []))
    | _, _, _ => none
  | _ => none
theorem okDrop : SpecOk 74 specDrop := by
  intro us R h
  unfold specDrop at h
  split at h
  · split at h
    · next x y z _ r a b h1 h2 h3 =>
      obtain ⟨⟨ha, hb, n, hr, hn, han, hbn, hab, q1, q2⟩, rfl⟩ := whenC_eq h
      rw [asRstO_eq h1, asInt_eq h2, asInt_eq h3]
      have hw := wDrop n r hr hn a.toNat b.toNat (by omega) (by omega) (by omega) (by rw [show (b.toNat : Int) = b by omega]; exact q1) (by rw [show (a.toNat : Int) = a by omega]; exact q2)
      rw [show (a.toNat : Int) = a by omega, show (b.toNat : Int) = b by omega] at hw
      show GoodE Try.prog 74 [one (.c (rstO r)), iv a, iv b] _
      unfold GoodE
      have hd : lentSV (rstO (r.drop a.toNat b.toNat)) (resSV []) = lentSV (rstO ⟨(r.near.set a.toNat ((nthR r.near a.toNat).erase b)).set b.toNat ((nthR r.near b.toNat).erase a), r.mark, r.gone, r.count⟩) (resSV []) := by
        unfold Rst.drop
        rw [show (a.toNat : Int) = a by omega, show (b.toNat : Int) = b by omega]
      rw [hd]
      exact goodBy2L EDrop_ok Try.func74 rfl (Nat.le_of_ble_eq_true rfl) (by decide) hw
    · cases h
  · cases h
theorem sDrop {n : Nat} {r : Rst} (hr : RstOk n r) (hn : n ≤ 1000000) (a b : Nat) (ha : a < n) (hb : b < n) (hab : a ≠ b) (h1 : (b : Int) ∈ nthR r.near a) (h2 : (a : Int) ∈ nthR r.near b) : specDrop [one (.c (rstO r)), iv a, iv b] = some (lentSV (rstO (r.drop a b)) (resSV [])) := by
  unfold specDrop
  simp only [one, asRstO_rst, asInt_iv]
  exact whenC_pos _ ⟨by omega, by omega, n, hr, hn, by omega, by omega, by omega, h1, h2⟩
@[simp] theorem callDrop {E : Env} {σ : St Unit} {t : Nat} {l : List Operand} : effCall Try.prog E ΩU σ t 74 l = callO E 74 t (argsOf Try.prog ΩU σ [63, 3, 3] l) := eff_call Try.func74 Try.params74
@[simp] theorem lendDrop {E : Env} {σ : St Unit} {t s : Nat} {l : List Operand} : effLend Try.prog E ΩU σ t 74 (.tmp s :: l) = lendO E σ t s 74 [3, 3] l := eff_lend Try.func74 Try.params74
noncomputable def specJoin : Spec := fun us => match us with
  | [x, y, z] => match asRstO x, asInt y, asInt z with
    | some r, some a, some b => whenC (0 ≤ a ∧ 0 ≤ b ∧ ∃ n : Nat, RstOk n r ∧ n ≤ 1000000 ∧ a < n ∧ b < n ∧ a ≠ b) (lentSV (rstO (r.join a.toNat b.toNat)) (resSV []))
    | _, _, _ => none
  | _ => none
theorem okJoin : SpecOk 55 specJoin := by
  intro us R h
  unfold specJoin at h
  split at h
  · split at h
    · next x y z _ r a b h1 h2 h3 =>
      obtain ⟨⟨ha, hb, n, hr, hn, han, hbn, hab⟩, rfl⟩ := whenC_eq h
      rw [asRstO_eq h1, asInt_eq h2, asInt_eq h3]
      have hw := wJoin n r hr hn a.toNat b.toNat (by omega) (by omega) (by omega)
      rw [show (a.toNat : Int) = a by omega, show (b.toNat : Int) = b by omega] at hw
      show GoodE Try.prog 55 [one (.c (rstO r)), iv a, iv b] _
      unfold GoodE
      have hd : lentSV (rstO (r.join a.toNat b.toNat)) (resSV []) = lentSV (rstO ⟨(r.near.set a.toNat (insI (nthR r.near a.toNat) b)).set b.toNat (insI (nthR r.near b.toNat) a), r.mark, r.gone, r.count⟩) (resSV []) := by
        unfold Rst.join
        rw [show (a.toNat : Int) = a by omega, show (b.toNat : Int) = b by omega]
      rw [hd]
      exact goodBy2L EDrop_ok Try.func55 rfl (Nat.le_of_ble_eq_true rfl) (by decide) hw
    · cases h
  · cases h
theorem sJoin {n : Nat} {r : Rst} (hr : RstOk n r) (hn : n ≤ 1000000) (a b : Nat) (ha : a < n) (hb : b < n) (hab : a ≠ b) : specJoin [one (.c (rstO r)), iv a, iv b] = some (lentSV (rstO (r.join a b)) (resSV [])) := by
  unfold specJoin
  simp only [one, asRstO_rst, asInt_iv]
  exact whenC_pos _ ⟨by omega, by omega, n, hr, hn, by omega, by omega, by omega⟩
@[simp] theorem callJoin {E : Env} {σ : St Unit} {t : Nat} {l : List Operand} : effCall Try.prog E ΩU σ t 55 l = callO E 55 t (argsOf Try.prog ΩU σ [63, 3, 3] l) := eff_call Try.func55 Try.params55
@[simp] theorem lendJoin {E : Env} {σ : St Unit} {t s : Nat} {l : List Operand} : effLend Try.prog E ΩU σ t 55 (.tmp s :: l) = lendO E σ t s 55 [3, 3] l := eff_lend Try.func55 Try.params55
end Go.Proofs.Ytnmocjhpbobahaa.L
namespace Go.Proofs.Ytnmocjhpbobahaa.L
open Go Go.RowKit
set_option maxRecDepth 100000
set_option maxHeartbeats 4000000
/-- Who is whose neighbour is his; nobody is his own. -/
structure RstS (n : Nat) (r : Rst) : Prop extends RstOk n r where
  sym : ∀ a b : Nat, a < n → b < n → (b : Int) ∈ nthR r.near a → (a : Int) ∈ nthR r.near b
  irr : ∀ a : Nat, a < n → (a : Int) ∉ nthR r.near a
theorem RstOk.nodup {n : Nat} {r : Rst} (h : RstOk n r) {v : Nat} (hv : v < n) : (nthR r.near v).Nodup := (h.rise v hv).imp (fun hab => Int.ne_of_lt hab)
theorem nthR_drop {n : Nat} {r : Rst} (h : RstOk n r) {a b : Nat} (ha : a < n) (hb : b < n) (j : Nat) : nthR (r.drop a b).near j = if b = j then (nthR r.near b).erase a else if a = j then (nthR r.near a).erase b else nthR r.near j := by
  unfold Rst.drop
  simp only
  rw [nthR_set (by rw [List.length_set, h.near]; exact hb), nthR_set (by rw [h.near]; exact ha)]
theorem RstS.drop {n : Nat} {r : Rst} (h : RstS n r) {a b : Nat} (ha : a < n) (hb : b < n) (hab : a ≠ b) : RstS n (r.drop a b) := by
  have hn := fun j => nthR_drop h.toRstOk ha hb j
  have hm : ∀ j, j < n → ∀ x : Int, x ∈ nthR (r.drop a b).near j ↔ (x ∈ nthR r.near j ∧ ¬ (j = b ∧ x = a) ∧ ¬ (j = a ∧ x = b)) := by
    intro j hj x
    rw [hn j]
    by_cases h1 : b = j
    · subst h1
      rw [if_pos rfl, (h.toRstOk.nodup hb).mem_erase_iff]
      constructor
      · rintro ⟨p, q⟩; exact ⟨q, fun ⟨_, e⟩ => p e, fun ⟨e, _⟩ => hab e.symm⟩
      · rintro ⟨p, q, _⟩; exact ⟨fun e => q ⟨rfl, e⟩, p⟩
    · rw [if_neg h1]
      by_cases h2 : a = j
      · subst h2
        rw [if_pos rfl, (h.toRstOk.nodup ha).mem_erase_iff]
        constructor
        · rintro ⟨p, q⟩; exact ⟨q, fun ⟨e, _⟩ => hab e, fun ⟨_, e⟩ => p e⟩
        · rintro ⟨p, _, q⟩; exact ⟨fun e => q ⟨rfl, e⟩, p⟩
      · rw [if_neg h2]
        constructor
        · intro p; exact ⟨p, fun ⟨e, _⟩ => h1 e.symm, fun ⟨e, _⟩ => h2 e.symm⟩
        · rintro ⟨p, _⟩; exact p
  refine ⟨⟨?_, h.mark, h.gone, ?_, ?_⟩, ?_, ?_⟩
  · unfold Rst.drop; simp only [List.length_set]; exact h.near
  · intro v hv
    rw [hn v]
    split
    · exact (h.rise b hb).sublist List.erase_sublist
    · split
      · exact (h.rise a ha).sublist List.erase_sublist
      · exact h.rise v hv
  · intro v hv x hx; exact h.rng v hv x ((hm v hv x).1 hx).1
  · intro x y hx hy hxy
    rw [hm x hx] at hxy
    rw [hm y hy]
    obtain ⟨p, q1, q2⟩ := hxy
    refine ⟨h.sym x y hx hy p, fun ⟨e1, e2⟩ => q2 ⟨by omega, by omega⟩, fun ⟨e1, e2⟩ => q1 ⟨by omega, by omega⟩⟩
  · intro x hx hxx; exact h.irr x hx ((hm x hx x).1 hxx).1
/-- What is left when the first i neighbours of v are dropped. -/
def Rst.shed (r : Rst) (v i : Nat) : Rst := ((nthR r.near v).take i).foldl (fun r x => r.drop v x.toNat) r
theorem shed_zero (r : Rst) (v : Nat) : r.shed v 0 = r := rfl
theorem shed_succ (r : Rst) (v i : Nat) (hi : i < (nthR r.near v).length) : r.shed v (i + 1) = (r.shed v i).drop v (nth (nthR r.near v) i).toNat := by
  unfold Rst.shed
  rw [List.take_succ_eq_append_getElem hi, List.foldl_append]
  simp only [List.foldl_cons, List.foldl_nil]
  rw [show nth (nthR r.near v) i = (nthR r.near v)[i] by simp [nth, hi]]
theorem shed_ok {n : Nat} {r : Rst} (h : RstS n r) {v : Nat} (hv : v < n) : ∀ i, i ≤ (nthR r.near v).length → RstS n (r.shed v i) ∧ nthR (r.shed v i).near v = (nthR r.near v).drop i ∧ (r.shed v i).mark = r.mark ∧ (r.shed v i).gone = r.gone ∧ (r.shed v i).count = r.count
  | 0, _ => ⟨h, rfl, rfl, rfl, rfl⟩
  | i + 1, hi => by
    obtain ⟨p1, p2, p3, p4, p5⟩ := shed_ok h hv i (by omega)
    have hx := List.getElem_mem (l := nthR r.near v) (show i < _ by omega)
    have hr := h.rng v hv _ hx
    have hd : (nthR r.near v).drop i = (nthR r.near v)[i] :: (nthR r.near v).drop (i + 1) := List.drop_eq_getElem_cons (by omega)
    have e : nth (nthR r.near v) i = (nthR r.near v)[i] := by simp [nth, show i < (nthR r.near v).length by omega]
    have hne : v ≠ (nthR r.near v)[i].toNat := by
      intro e
      refine h.irr v hv ?_
      rw [show (v : Int) = (nthR r.near v)[i] by omega]; exact hx
    rw [shed_succ r v i (by omega), e]
    refine ⟨p1.drop hv (by omega) hne, ?_, p3, p4, p5⟩
    rw [nthR_drop p1.toRstOk hv (by omega), if_neg (Ne.symm hne), if_pos rfl, p2, hd, show (((nthR r.near v)[i].toNat : Nat) : Int) = (nthR r.near v)[i] by omega, List.erase_cons_head]
/-- What is left without a vertex. -/
def Rst.leave (r : Rst) (v : Nat) : Rst := ⟨(r.shed v (nthR r.near v).length).near, r.mark, r.gone.set v true, r.count - 1⟩
def DropOk (r : Rst) (a b : Nat) : Prop := ∃ n : Nat, RstOk n r ∧ n ≤ 1000000 ∧ a < n ∧ b < n ∧ a ≠ b ∧ (b : Int) ∈ nthR r.near a ∧ (a : Int) ∈ nthR r.near b
@[simp] theorem sDropR {r : Rst} {a b : Nat} (h : DropOk r a b) : specDrop [⟨.one, [.c (rstO r)]⟩, iv a, iv b] = some (lentSV (rstO (r.drop a b)) (resSV [])) := by
  obtain ⟨n, h1, h2, h3, h4, h5, h6, h7⟩ := h
  exact sDrop h1 h2 a b h3 h4 h5 h6 h7
@[simp] theorem sDropF {l : List (Cell Unit)} {y z : SV Unit} : specDrop [⟨.one, [.c (.bx false () l)]⟩, y, z] = none := by
  unfold specDrop
  have : asRstO (⟨.one, [.c (.bx false () l)]⟩ : SV Unit) = none := by unfold asRstO; split <;> simp_all
  simp only [this]
attribute [local simp] lendO
@[simp] theorem lent_cs {y : Cell Unit} : (lentSV y (resSV [])).cs = [.c y] := rfl
@[simp] theorem lent_own {b : Rst} : (lentSV (rstO b) (resSV [])).ownAll = true := by
  simp [SV.ownAll, SC.ownAll]
@[simp] theorem lendEff_rst {t s : Nat} {p : List Nat} {v : SV Unit} {a b : Rst} : lendEff t s p (rstO a) v (lentSV (rstO b) (resSV [])) = some ⟨[(s, v.setP p (rstO b)), (t, resSV [])], (t, []) :: (s, p ++ [0]) :: (s, p ++ [1]) :: (s, p ++ [2]) :: (s, p ++ [3]) :: [], []⟩ := rfl
noncomputable abbrev ELeave : Env := ext (ext env0 73 specClone) 74 specDrop
theorem wLeave (n : Nat) (r : Rst) (hr : RstS n r) (hn : n ≤ 1000000) (v : Nat) (hv : v < n) (h0 : 0 < (nthR r.near v).length) (hc : 0 ≤ r.count ∧ r.count ≤ n) : ∃ c, Try.f54.body = some c ∧ RP (regOf Try.prog ELeave (37 + zeroN) u54) c (argsSt 0 [one (.c (rstO r)), iv v]) (endsAsL Try.prog Try.f54 (rstO r) (lentSV (rstO (r.leave v)) (resSV []))) := by
  refine ⟨_, rfl, ?_⟩
  generalize hQ : endsAsL Try.prog Try.f54 (rstO r) (lentSV (rstO (r.leave v)) (resSV [])) = Q
  simp only [argsSt]
  have c1 := hr.near
  have c2 : v < r.near.length := by omega
  have c4 := hr.len hv
  have c5 : (nthR r.near v).length ≤ 17592186043904 := by omega
  refine go ?_
  have key := fun i hi => shed_ok hr hv i hi
  apply rp_loop (fun k σ => ∃ i : Nat, i ≤ (nthR r.near v).length ∧ k = (nthR r.near v).length - i ∧ σ = [(0, one (.c (rstO (r.shed v i)))), (1, iv v), (13, ow (nthR r.near v)), (14, iv (nthR r.near v).length), (15, iv i)]) (nthR r.near v).length
  · exact ⟨0, by omega, by omega, rfl⟩
  rintro k σ ⟨i, hi, rfl, rfl⟩
  obtain ⟨k1, k2, k3, k4, k5⟩ := key i hi
  have g1 : v < (r.shed v i).gone.length := by rw [k4, hr.gone]; exact hv
  by_cases hil : i < (nthR r.near v).length
  · have hx := List.getElem_mem (l := nthR r.near v) hil
    have e : nth (nthR r.near v) i = (nthR r.near v)[i] := by simp [nth, hil]
    rw [← e] at hx
    obtain ⟨x, hxx⟩ : ∃ x : Nat, nth (nthR r.near v) i = (x : Int) := ⟨(nth (nthR r.near v) i).toNat, by have := hr.rng v hv _ hx; omega⟩
    have hxn : x < n := by have := hr.rng v hv _ hx; omega
    have hvx : v ≠ x := by
      rintro rfl
      refine hr.irr v hv ?_
      rw [← hxx]; exact hx
    have hd : (nthR r.near v).drop i = (nthR r.near v)[i] :: (nthR r.near v).drop (i + 1) := List.drop_eq_getElem_cons hil
    have m1 : (x : Int) ∈ nthR (r.shed v i).near v := by rw [k2, hd, ← e, hxx]; simp
    have m2 := k1.sym v x hv hxn m1
    have sd : DropOk (r.shed v i) v x := ⟨n, k1.toRstOk, hn, hv, hxn, hvx, m1, m2⟩
    have es := shed_succ r v i hil
    rw [hxx, Int.toNat_natCast] at es
    refine go ?_
    rw [hxx]
    refine go ?_
    rw [← es]
    exact nxt ((nthR r.near v).length - (i + 1)) (by omega) ⟨i + 1, by omega, rfl, rfl⟩
  refine go ?_
  have hi2 : i = (nthR r.near v).length := by omega
  show Q .normal _
  refine finL_norm hQ rfl rfl ?_
  rw [k3, k4, k5]
  unfold Rst.leave
  rw [← hi2]
end Go.Proofs.Ytnmocjhpbobahaa.L
namespace Go.Proofs.Ytnmocjhpbobahaa.L
open Go Go.RowKit
set_option maxRecDepth 100000
set_option maxHeartbeats 4000000
theorem ELeave_ok : EnvOk Try.prog ELeave := ext_ok (ext_ok env0_ok okClone) okDrop
def LeaveOk (r : Rst) (v : Nat) : Prop := ∃ n : Nat, RstS n r ∧ n ≤ 1000000 ∧ v < n ∧ 0 < (nthR r.near v).length ∧ 0 ≤ r.count ∧ r.count ≤ n
noncomputable def specLeave : Spec := fun us => match us with
  | [x, y] => match asRstO x, asInt y with
    | some r, some a => whenC (0 ≤ a ∧ LeaveOk r a.toNat) (lentSV (rstO (r.leave a.toNat)) (resSV []))
    | _, _ => none
  | _ => none
theorem okLeave : SpecOk 54 specLeave := by
  intro us R h
  unfold specLeave at h
  split at h
  · split at h
    · next x y _ r a h1 h2 =>
      obtain ⟨⟨ha, n, hr, hn, han, h0, hc⟩, rfl⟩ := whenC_eq h
      rw [asRstO_eq h1, asInt_eq h2]
      have hw := wLeave n r hr hn a.toNat (by omega) h0 hc
      rw [show (a.toNat : Int) = a by omega] at hw
      show GoodE Try.prog 54 [one (.c (rstO r)), iv a] _
      unfold GoodE
      exact goodBy2L ELeave_ok Try.func54 rfl (Nat.le_of_ble_eq_true rfl) (by decide) hw
    · cases h
  · cases h
@[simp] theorem sLeaveR {r : Rst} {a : Nat} (h : LeaveOk r a) : specLeave [⟨.one, [.c (rstO r)]⟩, iv a] = some (lentSV (rstO (r.leave a)) (resSV [])) := by
  unfold specLeave
  simp only [asRstO_rst, asInt_iv]
  exact whenC_pos _ ⟨by omega, h⟩
theorem asRstO_fro {l : List (Cell Unit)} : asRstO (⟨.one, [.c (.bx false () l)]⟩ : SV Unit) = none := by unfold asRstO; split <;> simp_all
@[simp] theorem sLeaveF {l : List (Cell Unit)} {y : SV Unit} : specLeave [⟨.one, [.c (.bx false () l)]⟩, y] = none := by
  unfold specLeave
  simp only [asRstO_fro]
@[simp] theorem callLeave {E : Env} {σ : St Unit} {t : Nat} {l : List Operand} : effCall Try.prog E ΩU σ t 54 l = callO E 54 t (argsOf Try.prog ΩU σ [63, 3] l) := eff_call Try.func54 Try.params54
@[simp] theorem lendLeave {E : Env} {σ : St Unit} {t s : Nat} {l : List Operand} : effLend Try.prog E ΩU σ t 54 (.tmp s :: l) = lendO E σ t s 54 [3] l := eff_lend Try.func54 Try.params54
def JoinOk (r : Rst) (a b : Nat) : Prop := ∃ n : Nat, RstOk n r ∧ n ≤ 1000000 ∧ a < n ∧ b < n ∧ a ≠ b
@[simp] theorem sJoinR {r : Rst} {a b : Nat} (h : JoinOk r a b) : specJoin [⟨.one, [.c (rstO r)]⟩, iv a, iv b] = some (lentSV (rstO (r.join a b)) (resSV [])) := by
  obtain ⟨n, h1, h2, h3, h4, h5⟩ := h
  exact sJoin h1 h2 a b h3 h4 h5
@[simp] theorem sJoinF {l : List (Cell Unit)} {y z : SV Unit} : specJoin [⟨.one, [.c (.bx false () l)]⟩, y, z] = none := by
  unfold specJoin
  simp only [asRstO_fro]
/-! ### what is left stays in order -/
theorem RstS.leave {n : Nat} {r : Rst} (h : RstS n r) {v : Nat} (hv : v < n) : RstS n (r.leave v) := by
  obtain ⟨p, _, _, p4, _⟩ := shed_ok h hv _ (Nat.le_refl _)
  exact ⟨⟨p.near, h.mark, by show (r.gone.set v true).length = n; rw [List.length_set]; exact h.gone, p.rise, p.rng⟩, p.sym, p.irr⟩
theorem shed_mem {n : Nat} {r : Rst} (h : RstS n r) {v : Nat} (hv : v < n) (i : Nat) (hi : i ≤ (nthR r.near v).length) (u : Nat) (hu : u < n) (x : Int) : x ∈ nthR (r.shed v i).near u ↔ (x ∈ nthR r.near u ∧ ¬ (u = v ∧ x ∈ (nthR r.near v).take i) ∧ ¬ (x = v ∧ (u : Int) ∈ (nthR r.near v).take i)) := by
  induction i with
  | zero => rw [shed_zero]; simp
  | succ i ih =>
    have ih := ih (by omega)
    obtain ⟨p1, p2, _⟩ := shed_ok h hv i (by omega)
    have hil : i < (nthR r.near v).length := by omega
    have hx := List.getElem_mem (l := nthR r.near v) hil
    have hr := h.rng v hv _ hx
    have e : nth (nthR r.near v) i = (nthR r.near v)[i] := by simp [nth, hil]
    have hne : v ≠ (nthR r.near v)[i].toNat := by
      intro e
      refine h.irr v hv ?_
      rw [show (v : Int) = (nthR r.near v)[i] by omega]; exact hx
    rw [shed_succ r v i hil, e, nthR_drop p1.toRstOk hv (by omega), List.take_succ_eq_append_getElem hil]
    have hyy : (((nthR r.near v)[i].toNat : Nat) : Int) = (nthR r.near v)[i] := by omega
    generalize (nthR r.near v)[i] = y at *
    simp only [List.mem_append, List.mem_singleton]
    by_cases h1 : y.toNat = u
    · rw [if_pos h1, h1, (p1.toRstOk.nodup hu).mem_erase_iff, ih]
      have : (u : Int) = y := by omega
      constructor
      · rintro ⟨q1, q2, q3, q4⟩; exact ⟨q2, fun ⟨a, _⟩ => by omega, fun ⟨a, _⟩ => q1 a⟩
      · rintro ⟨q1, q2, q3⟩; exact ⟨fun a => q3 ⟨a, .inr this⟩, q1, fun ⟨a, _⟩ => by omega, fun ⟨a, b⟩ => q3 ⟨a, .inl b⟩⟩
    · rw [if_neg h1]
      by_cases h2 : v = u
      · subst h2
        rw [if_pos rfl, (p1.toRstOk.nodup hv).mem_erase_iff, ih, hyy]
        constructor
        · rintro ⟨q1, q2, q3, q4⟩
          refine ⟨q2, fun ⟨_, a⟩ => ?_, fun ⟨a, b⟩ => ?_⟩
          · rcases a with a | a
            · exact q3 ⟨rfl, a⟩
            · exact q1 a
          · rcases b with b | b
            · exact q4 ⟨a, b⟩
            · omega
        · rintro ⟨q1, q2, q3⟩; exact ⟨fun a => q2 ⟨rfl, .inr a⟩, q1, fun ⟨a, b⟩ => q2 ⟨a, .inl b⟩, fun ⟨a, b⟩ => q3 ⟨a, .inl b⟩⟩
      · rw [if_neg h2, ih]
        have : ¬ (u : Int) = y := by omega
        constructor
        · rintro ⟨q1, q2, q3⟩
          exact ⟨q1, fun ⟨a, _⟩ => h2 a.symm, fun ⟨a, b⟩ => b.elim (fun b => q3 ⟨a, b⟩) this⟩
        · rintro ⟨q1, q2, q3⟩; exact ⟨q1, fun ⟨a, _⟩ => h2 a.symm, fun ⟨a, b⟩ => q3 ⟨a, .inl b⟩⟩
/-- Who leaves is nobody's neighbour, and has none; the others keep theirs. -/
theorem leave_mem {n : Nat} {r : Rst} (h : RstS n r) {v : Nat} (hv : v < n) {u : Nat} (hu : u < n) (x : Int) : x ∈ nthR (r.leave v).near u ↔ (x ∈ nthR r.near u ∧ u ≠ v ∧ x ≠ v) := by
  show x ∈ nthR (r.shed v (nthR r.near v).length).near u ↔ _
  rw [shed_mem h hv _ (Nat.le_refl _) u hu x, List.take_length]
  constructor
  · rintro ⟨p, q1, q2⟩
    refine ⟨p, fun e => ?_, fun e => ?_⟩
    · subst e; exact q1 ⟨rfl, p⟩
    · subst e; exact q2 ⟨rfl, h.sym u v hu hv p⟩
  · rintro ⟨p, q1, q2⟩; exact ⟨p, fun ⟨e, _⟩ => q1 e, fun ⟨e, _⟩ => q2 e⟩
end Go.Proofs.Ytnmocjhpbobahaa.L
namespace Go.Proofs.Ytnmocjhpbobahaa.L
open Go Go.RowKit
set_option maxRecDepth 100000
theorem insI_nil (v : Int) : insI [] v = [v] := rfl
theorem insI_cons (x : Int) (l : List Int) (v : Int) : insI (x :: l) v = if x < v then x :: insI l v else v :: x :: l := by
  unfold insI lowI
  by_cases h : x < v
  · rw [if_pos h]
    simp only [List.takeWhile_cons, h, decide_true, if_true, List.length_cons, List.take_succ_cons, List.drop_succ_cons, List.cons_append, Nat.add_sub_add_right]
  · rw [if_neg h]
    simp [List.takeWhile_cons, h]
theorem mem_insI {l : List Int} {v x : Int} : x ∈ insI l v ↔ x = v ∨ x ∈ l := by
  induction l with
  | nil => simp [insI_nil]
  | cons y l ih =>
    rw [insI_cons]
    split
    · simp only [List.mem_cons, ih]
      constructor
      · rintro (a | a | a)
        · exact .inr (.inl a)
        · exact .inl a
        · exact .inr (.inr a)
      · rintro (a | a | a)
        · exact .inr (.inl a)
        · exact .inl a
        · exact .inr (.inr a)
    · simp only [List.mem_cons]
theorem rise_insI {l : List Int} {v : Int} (hs : l.Pairwise (· < ·)) (hv : v ∉ l) : (insI l v).Pairwise (· < ·) := by
  induction l with
  | nil => simp [insI_nil]
  | cons y l ih =>
    rw [List.pairwise_cons] at hs
    rw [insI_cons]
    split
    · next h =>
      rw [List.pairwise_cons]
      refine ⟨?_, ih hs.2 (fun e => hv (List.mem_cons_of_mem _ e))⟩
      intro z hz
      rcases mem_insI.1 hz with e | e
      · omega
      · exact hs.1 z e
    · next h =>
      have hy : v ≠ y := fun e => hv (by rw [e]; exact List.mem_cons_self ..)
      refine List.pairwise_cons.2 ⟨?_, List.pairwise_cons.2 hs⟩
      intro z hz
      rcases List.mem_cons.1 hz with e | e
      · omega
      · have := hs.1 z e; omega
theorem nthR_join {n : Nat} {r : Rst} (h : RstOk n r) {a b : Nat} (ha : a < n) (hb : b < n) (j : Nat) : nthR (r.join a b).near j = if b = j then insI (nthR r.near b) a else if a = j then insI (nthR r.near a) b else nthR r.near j := by
  unfold Rst.join
  simp only
  rw [nthR_set (by rw [List.length_set, h.near]; exact hb), nthR_set (by rw [h.near]; exact ha)]
theorem join_mem {n : Nat} {r : Rst} (h : RstOk n r) {a b : Nat} (ha : a < n) (hb : b < n) (hab : a ≠ b) (j : Nat) (x : Int) : x ∈ nthR (r.join a b).near j ↔ (x ∈ nthR r.near j ∨ (j = b ∧ x = a) ∨ (j = a ∧ x = b)) := by
  rw [nthR_join h ha hb]
  by_cases h1 : b = j
  · subst h1
    rw [if_pos rfl, mem_insI]
    constructor
    · rintro (e | e)
      · exact .inr (.inl ⟨rfl, e⟩)
      · exact .inl e
    · rintro (e | ⟨_, e⟩ | ⟨e, _⟩)
      · exact .inr e
      · exact .inl e
      · exact absurd e.symm hab
  · rw [if_neg h1]
    by_cases h2 : a = j
    · subst h2
      rw [if_pos rfl, mem_insI]
      constructor
      · rintro (e | e)
        · exact .inr (.inr ⟨rfl, e⟩)
        · exact .inl e
      · rintro (e | ⟨e, _⟩ | ⟨_, e⟩)
        · exact .inr e
        · exact absurd e hab
        · exact .inl e
    · rw [if_neg h2]
      constructor
      · exact .inl
      · rintro (e | ⟨e, _⟩ | ⟨e, _⟩)
        · exact e
        · exact absurd e.symm h1
        · exact absurd e.symm h2
theorem RstS.join {n : Nat} {r : Rst} (h : RstS n r) {a b : Nat} (ha : a < n) (hb : b < n) (hab : a ≠ b) (hno : (b : Int) ∉ nthR r.near a) : RstS n (r.join a b) := by
  have hm := fun j x => join_mem h.toRstOk ha hb hab j x
  have hno2 : (a : Int) ∉ nthR r.near b := fun e => hno (h.sym b a hb ha e)
  refine ⟨⟨?_, h.mark, h.gone, ?_, ?_⟩, ?_, ?_⟩
  · unfold Rst.join; simp only [List.length_set]; exact h.near
  · intro v hv
    rw [nthR_join h.toRstOk ha hb]
    split
    · exact rise_insI (h.rise b hb) hno2
    · split
      · exact rise_insI (h.rise a ha) hno
      · exact h.rise v hv
  · intro v hv x hx
    rcases (hm v x).1 hx with e | ⟨_, e⟩ | ⟨_, e⟩
    · exact h.rng v hv x e
    · omega
    · omega
  · intro x y hx hy hxy
    rw [hm]
    rcases (hm x y).1 hxy with e | ⟨e1, e2⟩ | ⟨e1, e2⟩
    · exact .inl (h.sym x y hx hy e)
    · exact .inr (.inr ⟨by omega, by omega⟩)
    · exact .inr (.inl ⟨by omega, by omega⟩)
  · intro x hx hxx
    rcases (hm x x).1 hxx with e | ⟨e1, e2⟩ | ⟨e1, e2⟩
    · exact h.irr x hx e
    · omega
    · omega
end Go.Proofs.Ytnmocjhpbobahaa.L
namespace Go.Proofs.Ytnmocjhpbobahaa.L
open Go Go.RowKit
set_option maxRecDepth 100000
def nthT (l : List (List Bool)) (i : Nat) : List Bool := l.getD i []
def RT (l : List (List Bool)) : List (Cell Unit) := l.map fun r => .sl false 1 () (BL r)
def OT (l : List (List Bool)) : List (Cell Unit) := l.map fun r => .sl true 1 () (BL r)
@[simp] theorem RT_length (l : List (List Bool)) : (RT l).length = l.length := by simp [RT]
@[simp] theorem RT_copy (l : List (List Bool)) : (RT l).all Cell.copyable = true := by induction l <;> simp_all [RT, Cell.copyable]
@[simp] theorem RT_mem_copy (l : List (List Bool)) : (∀ x : Cell Unit, x ∈ RT l → x.copyable = true) = True := eq_true (fun x hx => List.all_eq_true.1 (RT_copy l) x hx)
@[simp] theorem RT_nth (l : List (List Bool)) (k : Nat) (h : k < l.length) : ((RT l).drop k).take 1 = [.sl false 1 () (BL (nthT l k))] := by
  rw [RT, ← List.map_drop, ← List.map_take]
  have : List.take 1 (List.drop k l) = [l[k]] := by rw [List.drop_eq_getElem_cons h]; rfl
  rw [this]
  simp [nthT, h]
@[simp] theorem freezeL_RT : ∀ l : List (List Bool), freezeL (RT l) = RT l
  | [] => rfl
  | n :: l => by have := freezeL_RT l; simp only [RT, List.map_cons, freezeL, Cell.freeze, freezeL_BL] at this ⊢; rw [this]
@[simp] theorem OT_length (l : List (List Bool)) : (OT l).length = l.length := by simp [OT]
@[simp] theorem freezeL_OT : ∀ l : List (List Bool), freezeL (OT l) = RT l
  | [] => rfl
  | n :: l => by have := freezeL_OT l; simp only [OT, RT, List.map_cons, freezeL, Cell.freeze, freezeL_BL] at this ⊢; rw [this]
@[simp] theorem allOwn_OT : ∀ l : List (List Bool), allOwnL (OT l) = true
  | [] => rfl
  | n :: l => by have := allOwn_OT l; simp only [OT, List.map_cons, allOwnL, Cell.allOwn, allOwn_BL] at this ⊢; rw [this]; rfl
@[simp] theorem OT_get (l : List (List Bool)) (k : Nat) (h : k < l.length) : (OT l)[k]? = some (.sl true 1 () (BL (nthT l k))) := by
  simp [OT, nthT, h]
@[simp] theorem OT_nth (l : List (List Bool)) (k : Nat) (h : k < l.length) : ((OT l).drop k).take 1 = [.sl true 1 () (BL (nthT l k))] := by
  rw [OT, ← List.map_drop, ← List.map_take]
  have : List.take 1 (List.drop k l) = [l[k]] := by rw [List.drop_eq_getElem_cons h]; rfl
  rw [this]
  simp [nthT, h]
@[simp] theorem OT_set (l : List (List Bool)) (k : Nat) (r : List Bool) : (OT l).set k (.sl true 1 () (BL r)) = OT (l.set k r) := by simp [OT]
@[simp] theorem OT_app1 (l : List (List Bool)) (r : List Bool) : OT l ++ [.sl true 1 () (BL r)] = OT (l ++ [r]) := by simp [OT]
@[simp] theorem OT_mem_alive (l : List (List Bool)) : (∀ x : Cell Unit, x ∈ OT l → x.isDead = false) = True := eq_true (fun x hx => by
  simp only [OT, List.mem_map] at hx; obtain ⟨r, _, rfl⟩ := hx; rfl)
@[simp] theorem OT_nil : OT [] = [] := rfl
theorem nthT_set {l : List (List Bool)} {i j : Nat} {x : List Bool} (hi : i < l.length) : nthT (l.set i x) j = if i = j then x else nthT l j := by
  unfold nthT
  simp only [List.getD_eq_getElem?_getD, List.getElem?_set]
  split
  · next h => subst h; simp [hi]
  · rfl
def toTs : List (Cell Unit) → Option (List (List Bool))
  | [] => some []
  | .sl false 1 _ row :: l => match toBools row, toTs l with
    | some r, some m => some (r :: m)
    | _, _ => none
  | _ => none
def toTo : List (Cell Unit) → Option (List (List Bool))
  | [] => some []
  | .sl true 1 _ row :: l => match toBools row, toTo l with
    | some r, some m => some (r :: m)
    | _, _ => none
  | _ => none
@[simp] theorem toTs_RT (l : List (List Bool)) : toTs (RT l) = some l := by
  induction l with
  | nil => rfl
  | cons r l ih => simp only [RT, List.map_cons, toTs, toBools_map] at ih ⊢; rw [ih]
@[simp] theorem toTo_OT (l : List (List Bool)) : toTo (OT l) = some l := by
  induction l with
  | nil => rfl
  | cons r l ih => simp only [OT, List.map_cons, toTo, toBools_map] at ih ⊢; rw [ih]
theorem toTs_eq : ∀ {row : List (Cell Unit)} {l : List (List Bool)}, toTs row = some l → row = RT l := by
  intro row
  induction row with
  | nil => intro l h; simp only [toTs, Option.some.injEq] at h; subst h; rfl
  | cons c row ih =>
    intro l h
    cases c with
    | sl o sz a r =>
      by_cases ho : o = false ∧ sz = 1
      · obtain ⟨rfl, rfl⟩ := ho
        simp only [toTs] at h
        split at h
        · next r' m h1 h2 => simp only [Option.some.injEq] at h; subst h; rw [ih h2, toBools_eq h1]; rfl
        · cases h
      · exfalso
        unfold toTs at h
        split at h <;> simp_all
    | _ => simp [toTs] at h
theorem toTo_eq : ∀ {row : List (Cell Unit)} {l : List (List Bool)}, toTo row = some l → row = OT l := by
  intro row
  induction row with
  | nil => intro l h; simp only [toTo, Option.some.injEq] at h; subst h; rfl
  | cons c row ih =>
    intro l h
    cases c with
    | sl o sz a r =>
      by_cases ho : o = true ∧ sz = 1
      · obtain ⟨rfl, rfl⟩ := ho
        simp only [toTo] at h
        split at h
        · next r' m h1 h2 => simp only [Option.some.injEq] at h; subst h; rw [ih h2, toBools_eq h1]; rfl
        · cases h
      · exfalso
        unfold toTo at h
        split at h <;> simp_all
    | _ => simp [toTo] at h
/-! ### the table -/
structure Tbl where
  inn : List Bool
  adj : List (List Bool)
  mark : List Int
abbrev tbF (t : Tbl) : Cell Unit := .bx false () [.sl false 1 () (BL t.inn), .sl false 1 () (RT t.adj), .sl false 1 () (IL t.mark)]
abbrev tbO (t : Tbl) : Cell Unit := .bx true () [.sl true 1 () (BL t.inn), .sl true 1 () (OT t.adj), .sl true 1 () (IL t.mark)]
structure TbOk (n : Nat) (t : Tbl) : Prop where
  inn : t.inn.length = n
  adj : t.adj.length = n
  row : ∀ v, v < n → (nthT t.adj v).length = n
  mark : t.mark.length = n
def asTb : SV Unit → Option Tbl
  | ⟨.one, [.c (.bx false () [.sl false 1 () a, .sl false 1 () b, .sl false 1 () c])]⟩ => match toBools a, toTs b, toInts c with
    | some a, some b, some c => some ⟨a, b, c⟩
    | _, _, _ => none
  | _ => none
@[simp] theorem asTb_tb (t : Tbl) : asTb ⟨.one, [.c (tbF t)]⟩ = some t := by simp [asTb]
theorem asTb_eq {v : SV Unit} {t : Tbl} (h : asTb v = some t) : v = ⟨.one, [.c (tbF t)]⟩ := by
  unfold asTb at h
  split at h
  · split at h
    · next a b c h1 h2 h3 =>
      simp only [Option.some.injEq] at h
      subst h
      rw [toBools_eq h1, toTs_eq h2, toInts_eq h3]
    · cases h
  · cases h
def asTbO : SV Unit → Option Tbl
  | ⟨.one, [.c (.bx true () [.sl true 1 () a, .sl true 1 () b, .sl true 1 () c])]⟩ => match toBools a, toTo b, toInts c with
    | some a, some b, some c => some ⟨a, b, c⟩
    | _, _, _ => none
  | _ => none
@[simp] theorem asTbO_tb (t : Tbl) : asTbO ⟨.one, [.c (tbO t)]⟩ = some t := by simp [asTbO]
theorem asTbO_eq {v : SV Unit} {t : Tbl} (h : asTbO v = some t) : v = ⟨.one, [.c (tbO t)]⟩ := by
  unfold asTbO at h
  split at h
  · split at h
    · next a b c h1 h2 h3 =>
      simp only [Option.some.injEq] at h
      subst h
      rw [toBools_eq h1, toTo_eq h2, toInts_eq h3]
    · cases h
  · cases h
@[simp] theorem undTb : Try.prog.underlying 105 = some (.struct #[⟨"In", 91, 0, false, "", "", 0⟩, ⟨"Adj", 103, 1, false, "", "", 24⟩, ⟨"Mark", 39, 2, false, "", "", 48⟩]) := by kernel_rfl
@[simp] theorem cellsTb : Try.prog.cellsOf 105 = 3 := by kernel_rfl
@[simp] theorem undTs : Try.prog.underlying 103 = some (.slice 91) := by kernel_rfl
@[simp] theorem cellsTs : Try.prog.cellsOf 103 = 1 := by kernel_rfl
abbrev tbf (t : Tbl) : SV Unit := ⟨.one, [.c (tbF t)]⟩
end Go.Proofs.Ytnmocjhpbobahaa.L
namespace Go.Proofs.Ytnmocjhpbobahaa.L
open Go Go.RowKit
set_option maxRecDepth 100000
set_option maxHeartbeats 4000000
/-- Who of the first i is in, and a neighbour. -/
def nearT (t : Tbl) (v : Nat) : Nat → List Int
  | 0 => []
  | i + 1 => if nthB t.inn i = true ∧ nthB (nthT t.adj v) i = true then nearT t v i ++ [(i : Int)] else nearT t v i
theorem nearT_le (t : Tbl) (v i : Nat) : (nearT t v i).length ≤ i := by
  induction i with
  | zero => exact Nat.le_refl _
  | succ i ih =>
    rw [nearT]; split
    · rw [List.length_append]; simp only [List.length_cons, List.length_nil]; omega
    · omega
theorem bT {l : List Bool} {i : Nat} (h : nthB l i = true) : nthB l i = true := h
theorem bF {l : List Bool} {i : Nat} (h : nthB l i = false) : nthB l i = false := h
attribute [local simp] bT bF
theorem wNearT (n : Nat) (t : Tbl) (ht : TbOk n t) (hn : n ≤ 1000000) (v : Nat) (hv : v < n) : ∃ c, Try.f59.body = some c ∧ RP (regOf Try.prog env0 41 u59) c (argsSt 0 [tbf t, iv v]) (endsAs Try.prog Try.f59 (ow (nearT t v n))) := by
  refine ⟨_, rfl, ?_⟩
  generalize hQ : endsAs Try.prog Try.f59 (ow (nearT t v n)) = Q
  simp only [argsSt]
  have c1 := ht.inn
  have c2 := ht.adj
  have c3 := ht.row v hv
  have c4 : v < t.adj.length := by omega
  refine go ?_
  apply rp_loop (fun k σ => ∃ i : Nat, i ≤ n ∧ k = n - i ∧ σ = [(0, tbf t), (1, iv v), (5, ow (nearT t v i)), (6, iv i)]) n
  · exact ⟨0, by omega, by omega, rfl⟩
  rintro k σ ⟨i, hi, rfl, rfl⟩
  have hle := nearT_le t v i
  by_cases hil : i < n
  · have i1 : i < t.inn.length := by omega
    have i2 : i < (nthT t.adj v).length := by omega
    cases h1 : nthB t.inn i with
    | false =>
      have e : nearT t v (i + 1) = nearT t v i := by rw [nearT, if_neg (by rw [h1]; rintro ⟨h, _⟩; cases h)]
      generalize nearT t v i = L at *
      refine go ?_
      exact nxt (n - (i + 1)) (by omega) ⟨i + 1, by omega, rfl, by rw [e]; rfl⟩
    | true =>
      cases h2 : nthB (nthT t.adj v) i with
      | false =>
        have e : nearT t v (i + 1) = nearT t v i := by rw [nearT, if_neg (by rw [h2]; rintro ⟨_, h⟩; cases h)]
        generalize nearT t v i = L at *
        refine go ?_
        exact nxt (n - (i + 1)) (by omega) ⟨i + 1, by omega, rfl, by rw [e]; rfl⟩
      | true =>
        have e : nearT t v (i + 1) = nearT t v i ++ [(i : Int)] := by rw [nearT, if_pos ⟨h1, h2⟩]
        generalize nearT t v i = L at *
        refine go ?_
        exact nxt (n - (i + 1)) (by omega) ⟨i + 1, by omega, rfl, by rw [e]; rfl⟩
  obtain rfl : i = n := by omega
  refine go ?_
  show Q .ret _; refine fin_ret hQ rfl ?_
  rfl
def TbHas (t : Tbl) (v : Nat) : Prop := ∃ n : Nat, TbOk n t ∧ n ≤ 1000000 ∧ v < n
noncomputable def specNearT : Spec := fun us => match us with
  | [x, y] => match asTb x, asInt y with
    | some t, some a => whenC (0 ≤ a ∧ TbHas t a.toNat) (ow (nearT t a.toNat t.inn.length))
    | _, _ => none
  | _ => none
theorem okNearT : SpecOk 59 specNearT := by
  intro us R h
  unfold specNearT at h
  split at h
  · split at h
    · next x y _ t a h1 h2 =>
      obtain ⟨⟨h0, n, h3, h4, h5⟩, rfl⟩ := whenC_eq h
      rw [asTb_eq h1, asInt_eq h2]
      have hw := wNearT n t h3 h4 a.toNat h5
      rw [show (a.toNat : Int) = a by omega, ← h3.inn] at hw
      exact goodBy2 env0_ok Try.func59 rfl (Nat.le_of_ble_eq_true rfl) (by decide) hw
    · cases h
  · cases h
@[simp] theorem sNearT {t : Tbl} {a : Nat} (h : TbHas t a) : specNearT [⟨.one, [.c (tbF t)]⟩, iv a] = some (ow (nearT t a t.inn.length)) := by
  unfold specNearT
  simp only [asTb_tb, asInt_iv]
  exact whenC_pos _ ⟨by omega, h⟩
@[simp] theorem callNearT {E : Env} {σ : St Unit} {t : Nat} {l : List Operand} : effCall Try.prog E ΩU σ t 59 l = callO E 59 t (argsOf Try.prog ΩU σ [70, 3] l) := eff_call Try.func59 Try.params59
end Go.Proofs.Ytnmocjhpbobahaa.L
namespace Go.Proofs.Ytnmocjhpbobahaa.L
open Go Go.RowKit
set_option maxRecDepth 100000
set_option maxHeartbeats 4000000
def cntT (t : Tbl) : Nat → Int
  | 0 => 0
  | i + 1 => if nthB t.inn i = true then cntT t i + 1 else cntT t i
theorem cntT_le (t : Tbl) (i : Nat) : 0 ≤ cntT t i ∧ cntT t i ≤ i := by
  induction i with
  | zero => exact ⟨Int.le_refl _, Int.le_refl _⟩
  | succ i ih => rw [cntT]; split <;> omega
attribute [local simp] bT bF
theorem wCountT (n : Nat) (t : Tbl) (ht : TbOk n t) (hn : n ≤ 1000000) : ∃ c, Try.f58.body = some c ∧ RP (regOf Try.prog env0 24 u58) c (argsSt 0 [tbf t]) (endsAs Try.prog Try.f58 (iv (cntT t n))) := by
  refine ⟨_, rfl, ?_⟩
  generalize hQ : endsAs Try.prog Try.f58 (iv (cntT t n)) = Q
  simp only [argsSt]
  have c1 := ht.inn
  refine go ?_
  apply rp_loop (fun k σ => ∃ i : Nat, i ≤ n ∧ k = n - i ∧ σ = [(0, tbf t), (3, iv (cntT t i)), (4, iv i)]) n
  · exact ⟨0, by omega, by omega, rfl⟩
  rintro k σ ⟨i, hi, rfl, rfl⟩
  have hle := cntT_le t i
  by_cases hil : i < n
  · have i1 : i < t.inn.length := by omega
    cases h1 : nthB t.inn i with
    | false =>
      have e : cntT t (i + 1) = cntT t i := by rw [cntT, if_neg (by rw [h1]; exact Bool.noConfusion)]
      refine go ?_
      exact nxt (n - (i + 1)) (by omega) ⟨i + 1, by omega, rfl, by rw [e]; rfl⟩
    | true =>
      have e : cntT t (i + 1) = cntT t i + 1 := by rw [cntT, if_pos h1]
      refine go ?_
      exact nxt (n - (i + 1)) (by omega) ⟨i + 1, by omega, rfl, by rw [e]; rfl⟩
  obtain rfl : i = n := by omega
  refine go ?_
  show Q .ret _; refine fin_ret hQ rfl ?_
  rfl
noncomputable def specCountT : Spec := fun us => match us with
  | [x] => match asTb x with
    | some t => whenC (TbOk t.inn.length t ∧ t.inn.length ≤ 1000000) (iv (cntT t t.inn.length))
    | _ => none
  | _ => none
theorem okCountT : SpecOk 58 specCountT := by
  intro us R h
  unfold specCountT at h
  split at h
  · split at h
    · next x _ t h1 =>
      obtain ⟨⟨h3, h4⟩, rfl⟩ := whenC_eq h
      rw [asTb_eq h1]
      exact goodBy2 env0_ok Try.func58 rfl (Nat.le_of_ble_eq_true rfl) (by decide) (wCountT _ t h3 h4)
    · cases h
  · cases h
def TbGood (t : Tbl) : Prop := TbOk t.inn.length t ∧ t.inn.length ≤ 1000000
@[simp] theorem sCountT {t : Tbl} (h : TbGood t) : specCountT [⟨.one, [.c (tbF t)]⟩] = some (iv (cntT t t.inn.length)) := by
  unfold specCountT
  simp only [asTb_tb]
  exact whenC_pos _ h
@[simp] theorem callCountT {E : Env} {σ : St Unit} {t : Nat} {l : List Operand} : effCall Try.prog E ΩU σ t 58 l = callO E 58 t (argsOf Try.prog ΩU σ [70] l) := eff_call Try.func58 Try.params58
/-! ### inner -/
def innT (t : Tbl) (v : Nat) : Bool := decide (nth t.mark v = 2 ∨ 3 < (nearT t v t.inn.length).length)
noncomputable abbrev EInT : Env := ext env0 59 specNearT
theorem wInT (n : Nat) (t : Tbl) (ht : TbOk n t) (hn : n ≤ 1000000) (v : Nat) (hv : v < n) : ∃ c, Try.f77.body = some c ∧ RP (regOf Try.prog EInT 20 u77) c (argsSt 0 [tbf t, iv v]) (endsAs Try.prog Try.f77 (bv (innT t v))) := by
  refine ⟨_, rfl, ?_⟩
  generalize hQ : endsAs Try.prog Try.f77 (bv (innT t v)) = Q
  simp only [argsSt]
  have c2 := ht.mark
  have c3 : v < t.mark.length := by omega
  have hb : TbHas t v := ⟨n, ht, hn, hv⟩
  have hle := nearT_le t v t.inn.length
  by_cases hm : nth t.mark v = 2
  · refine go ?_
    show Q .ret _; refine fin_ret hQ rfl ?_
    rw [show innT t v = true from decide_eq_true (.inl hm)]; rfl
  · by_cases h3 : 3 < (nearT t v t.inn.length).length
    · refine go ?_
      show Q .ret _; refine fin_ret hQ rfl ?_
      rw [show innT t v = true from decide_eq_true (.inr h3)]; rfl
    · refine go ?_
      show Q .ret _; refine fin_ret hQ rfl ?_
      rw [show innT t v = false from decide_eq_false (fun h => h.elim hm h3)]; rfl
noncomputable def specInT : Spec := fun us => match us with
  | [x, y] => match asTb x, asInt y with
    | some t, some a => whenC (0 ≤ a ∧ TbHas t a.toNat) (bv (innT t a.toNat))
    | _, _ => none
  | _ => none
theorem EInT_ok : EnvOk Try.prog EInT := ext_ok env0_ok okNearT
theorem okInT : SpecOk 77 specInT := by
  intro us R h
  unfold specInT at h
  split at h
  · split at h
    · next x y _ t a h1 h2 =>
      obtain ⟨⟨h0, n, h3, h4, h5⟩, rfl⟩ := whenC_eq h
      rw [asTb_eq h1, asInt_eq h2]
      have hw := wInT n t h3 h4 a.toNat h5
      rw [show (a.toNat : Int) = a by omega] at hw
      exact goodBy2 EInT_ok Try.func77 rfl (Nat.le_of_ble_eq_true rfl) (by decide) hw
    · cases h
  · cases h
@[simp] theorem sInT {t : Tbl} {a : Nat} (h : TbHas t a) : specInT [⟨.one, [.c (tbF t)]⟩, iv a] = some (bv (innT t a)) := by
  unfold specInT
  simp only [asTb_tb, asInt_iv]
  exact whenC_pos _ ⟨by omega, h⟩
@[simp] theorem callInT {E : Env} {σ : St Unit} {t : Nat} {l : List Operand} : effCall Try.prog E ΩU σ t 77 l = callO E 77 t (argsOf Try.prog ΩU σ [70, 3] l) := eff_call Try.func77 Try.params77
end Go.Proofs.Ytnmocjhpbobahaa.L
namespace Go.Proofs.Ytnmocjhpbobahaa.L
open Go Go.RowKit
set_option maxRecDepth 100000
set_option maxHeartbeats 4000000
attribute [local simp] bT bF
/-- Has each of the first i that is in three neighbours? -/
def allT (t : Tbl) : Nat → Bool
  | 0 => true
  | i + 1 => allT t i && (!(nthB t.inn i) || decide ((nearT t i t.inn.length).length = 3))
def fourT (t : Tbl) : Bool := decide (cntT t t.inn.length = 4) && allT t t.inn.length
noncomputable def specFourT : Spec := fun us => match us with
  | [x] => match asTb x with
    | some t => whenC (TbGood t) (bv (fourT t))
    | _ => none
  | _ => none
@[simp] theorem sFourT {t : Tbl} (h : TbGood t) : specFourT [⟨.one, [.c (tbF t)]⟩] = some (bv (fourT t)) := by
  unfold specFourT
  simp only [asTb_tb]
  exact whenC_pos _ h
@[simp] theorem callFourT {E : Env} {σ : St Unit} {t : Nat} {l : List Operand} : effCall Try.prog E ΩU σ t 34 l = callO E 34 t (argsOf Try.prog ΩU σ [70] l) := eff_call Try.func34 Try.params34
/-! ### Fits -/
def mkT (t : Tbl) (m : Int) : Nat → Int
  | 0 => 0
  | i + 1 => if nthB t.inn i = true ∧ nth t.mark i = m then mkT t m i + 1 else mkT t m i
def fitT (t : Tbl) : Bool := decide (mkT t 2 t.inn.length ≤ 1 ∧ mkT t 1 t.inn.length ≤ 3)
noncomputable def specFitT : Spec := fun us => match us with
  | [x] => match asTb x with
    | some t => whenC (TbGood t) (bv (fitT t))
    | _ => none
  | _ => none
@[simp] theorem sFitT {t : Tbl} (h : TbGood t) : specFitT [⟨.one, [.c (tbF t)]⟩] = some (bv (fitT t)) := by
  unfold specFitT
  simp only [asTb_tb]
  exact whenC_pos _ h
@[simp] theorem callFitT {E : Env} {σ : St Unit} {t : Nat} {l : List Operand} : effCall Try.prog E ΩU σ t 35 l = callO E 35 t (argsOf Try.prog ΩU σ [70] l) := eff_call Try.func35 Try.params35
end Go.Proofs.Ytnmocjhpbobahaa.L
