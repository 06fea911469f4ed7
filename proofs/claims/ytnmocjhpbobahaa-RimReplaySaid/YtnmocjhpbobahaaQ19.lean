/- RT: a table with more kept (the row that a loop runs over). R30: rest.do. RD: what a cut does, as a plain law. -/
import Derived.Test.YtnmocjhpbobahaaQ9
import Derived.Test.YtnmocjhpbobahaaQ18
import Derived.Test.YtnmocjhpbobahaaQ15
set_option linter.unusedVariables false
set_option linter.unusedSimpArgs false
set_option linter.unnecessarySimpa false
namespace Go.Proofs.Ytnmocjhpbobahaa.L
open Go Go.RowKit
set_option maxRecDepth 100000
def vDo : List (Nat × RC) := (11, .s [0, 5, 56, 57, 58]) :: (12, .s [0, 5, 56, 57, 58, 59]) :: (13, .s [0, 5, 8, 56, 57, 58]) :: (14, ⟨[0, 5, 56, 57, 58], ⟨[0, 1, 3, 7, 0, 16, 0, 64, 255, 511], [.fn 0 0, .fn 0 0, .fn 0 0, .fn 0 0, .fn 0 0, .fn 0 0, .fn 0 0, .fn 0 0, .fn 0 0, .wr 0], [9], [(62, 0), (63, 1), (64, 2), (65, 3), (66, 4), (67, 5), (68, 6), (69, 7), (70, 8)]⟩, [([0, 1, 2, 3, 4, 5, 6, 7, 8], []), ([], [])]⟩) :: (15, .s [0, 5, 56, 57, 58]) :: u30
def tabsR : Tabs := [(30 + zeroN, vDo)]
theorem tabsR_ok : tabsOk Try.prog tabsR = true := by kernel_rfl
theorem goodByRL {E : Env} (hE : EnvOk Try.prog E) {f : FuncId} {fn : Func} {t : List (Nat × RC)} {y : Cell Unit} {us : List (SV Unit)} {R : SV Unit} (hf : Try.prog.funcs[f]? = some fn) (ht : tabsR.lookup (f + zeroN) = some t) (hl : us.length < fn.ntmps) (hn : (fn.name == "runtime.NumGoroutine") = false)
    (h : ∃ c, fn.body = some c ∧ RP (regOf Try.prog E (fn.ntmps + zeroN) t) c (argsSt 0 (one (.c y) :: us)) (endsAsL Try.prog fn y R)) (hz : Nat.ble (fn.ntmps + 1) zeroN = true := by rfl) (hfz : Nat.ble (f + 1) zeroN = true := by rfl) : GoodL Try.prog f y us R := goodLTab hE tabsR_ok hf ht hl hn h hz hfz
end Go.Proofs.Ytnmocjhpbobahaa.L
namespace Go.Proofs.Ytnmocjhpbobahaa.L
open Go Go.RowKit
set_option maxRecDepth 100000
set_option maxHeartbeats 4000000
attribute [local simp] lendO
@[simp] theorem sWideX {r : Rst} {a b c p q s : Int} (h : WideOk r (a, b, c, p, q, s)) : specWide [⟨.one, [.c (rstO r)]⟩, ⟨.agg, [.c (.sc (.int .i64 a)), .c (.sc (.int .i64 b)), .c (.sc (.int .i64 c)), .c (.sc (.int .i64 p)), .c (.sc (.int .i64 q)), .c (.sc (.int .i64 s))]⟩] = some (lentSV (rstO (wideC r (a, b, c, p, q, s)).1) (bv (wideC r (a, b, c, p, q, s)).2)) := sWideR h
@[simp] theorem sWantsX {r : Rst} {a b c p q s : Nat} (h : WantsOk r a b c p q s) : specWants [⟨.one, [.c (rstF r)]⟩, ⟨.agg, [.c (.sc (.int .i64 a)), .c (.sc (.int .i64 b)), .c (.sc (.int .i64 c)), .c (.sc (.int .i64 p)), .c (.sc (.int .i64 q)), .c (.sc (.int .i64 s))]⟩] = some (wnB (wantsF r a b c p q s).1 (wantsF r a b c p q s).2) := sWantsR h
@[simp] theorem lent1_cs {y x : Cell Unit} : (lentSV y ⟨.one, [.c x]⟩).cs = [.c y, .c x] := rfl
@[simp] theorem lent1_own {b : Rst} {x : Value} : (lentSV (rstO b) ⟨.one, [.c (.sc x)]⟩).ownAll = true := by
  simp [SV.ownAll, SC.ownAll]
@[simp] theorem lendEff_rst1 {t s : Nat} {p : List Nat} {v : SV Unit} {a b : Rst} {x : Value} : lendEff t s p (rstO a) v (lentSV (rstO b) ⟨.one, [.c (.sc x)]⟩) = some ⟨[(s, v.setP p (rstO b)), (t, ⟨.one, [.c (.sc x)]⟩)], (t, []) :: (s, p ++ [0]) :: (s, p ++ [1]) :: (s, p ++ [2]) :: (s, p ++ [3]) :: [], []⟩ := rfl
noncomputable abbrev EDo : Env := ext (ext (ext (ext (ext env0 44 specMin) 52 specWide) 53 specWants) 54 specLeave) 55 specJoin
theorem wDoWide (r : Rst) (a b c p q s : Int) (hw : WideOk r (a, b, c, p, q, s)) (hmin : minL [p, q, s] < 0) : ∃ k, Try.f30.body = some k ∧ RP (regOf Try.prog EDo (72 + zeroN) vDo) k (argsSt 0 [one (.c (rstO r)), cu6 (a, b, c, p, q, s)]) (endsAsL Try.prog Try.f30 (rstO r) (lentSV (rstO (wideC r (a, b, c, p, q, s)).1) (bv (wideC r (a, b, c, p, q, s)).2))) := by
  refine ⟨_, rfl, ?_⟩
  generalize hQ : endsAsL Try.prog Try.f30 (rstO r) (lentSV (rstO (wideC r (a, b, c, p, q, s)).1) (bv (wideC r (a, b, c, p, q, s)).2)) = Q
  simp only [argsSt]
  refine go ?_
  show Q .ret _
  refine finL_ret hQ rfl rfl rfl
/-- Marks are laid. -/
def layM (m : List Int) (l : List (Int × Int)) : List Int := l.foldl (fun m e => m.set e.1.toNat e.2) m
theorem layM_len (m : List Int) (l : List (Int × Int)) : (layM m l).length = m.length := by
  unfold layM
  induction l generalizing m with
  | nil => rfl
  | cons e l ih => rw [List.foldl_cons, ih, List.length_set]
def smallF (r : Rst) (a b c p q s : Nat) : Rst × Bool :=
  if (wantsF r a b c p q s).2 = true then
    (⟨((((r.leave b).leave c).join a q).join a s).near, layM (((((r.leave b).leave c).join a q).join a s).mark.set a 1) (wantsF r a b c p q s).1, ((((r.leave b).leave c).join a q).join a s).gone, ((((r.leave b).leave c).join a q).join a s).count⟩, true)
  else (r, false)
theorem wantsF_mem {r : Rst} {a b c p q s n : Nat} (hp : p < n) (hq : q < n) (hs : s < n) {e : Int × Int} (he : e ∈ (wantsF r a b c p q s).1) : ∃ x : Nat, e.1 = x ∧ x < n := by
  unfold wantsF at he
  split at he
  · cases he
  · simp only at he
    unfold wantsAll at he
    rcases List.mem_append.1 he with he | he
    · rcases List.mem_append.1 he with he | he
      · exact ⟨p, (wantOne_mem he).1, hp⟩
      · exact ⟨q, (wantOne_mem he).1, hq⟩
    · exact ⟨s, (wantOne_mem he).1, hs⟩
theorem wantsF_len (r : Rst) (a b c p q s : Nat) : (wantsF r a b c p q s).1.length ≤ 3 := by
  unfold wantsF
  split
  · exact Nat.zero_le _
  · simp only [wantsAll, List.length_append]
    have := wantOne_len r (cnt3 r 2 a b c) (decide (cnt3 r 2 a b c = 1 ∨ cnt3 r 1 a b c = 2)) a p
    have := wantOne_len r (cnt3 r 2 a b c) (decide (cnt3 r 2 a b c = 1 ∨ cnt3 r 1 a b c = 2)) b q
    have := wantOne_len r (cnt3 r 2 a b c) (decide (cnt3 r 2 a b c = 1 ∨ cnt3 r 1 a b c = 2)) c s
    omega
theorem wDoSmall (n : Nat) (r : Rst) (hr : RstS n r) (hn : n ≤ 1000000) (a b c p q s : Nat) (ha : a < n) (hb : b < n) (hc : c < n) (hp : p < n) (hq : q < n) (hs : s < n) (hm : ∀ v, v < n → nth r.mark v = 0 ∨ nth r.mark v = 1 ∨ nth r.mark v = 2) (hcn : 2 ≤ r.count ∧ r.count ≤ n) (hb0 : 0 < (nthR r.near b).length) (hc0 : 0 < (nthR (r.leave b).near c).length) (haq : a ≠ q) (has : a ≠ s) (hnq : (wantsF r a b c p q s).2 = true → (q : Int) ∉ nthR ((r.leave b).leave c).near a) : ∃ k, Try.f30.body = some k ∧ RP (regOf Try.prog EDo (72 + zeroN) vDo) k (argsSt 0 [one (.c (rstO r)), cu6 ((a : Int), (b : Int), (c : Int), (p : Int), (q : Int), (s : Int))]) (endsAsL Try.prog Try.f30 (rstO r) (lentSV (rstO (smallF r a b c p q s).1) (bv (smallF r a b c p q s).2))) := by
  refine ⟨_, rfl, ?_⟩
  generalize hQ : endsAsL Try.prog Try.f30 (rstO r) (lentSV (rstO (smallF r a b c p q s).1) (bv (smallF r a b c p q s).2)) = Q
  simp only [argsSt]
  have hmin : ¬ minL [(p : Int), (q : Int), (s : Int)] < 0 := by simp only [minL, List.tail_cons, List.foldl_cons, List.foldl_nil, nth]; simp; omega
  have wo : WantsOk r a b c p q s := ⟨n, hr.toRstOk, hn, ⟨ha, hb, hc, hp, hq, hs⟩, hm⟩
  have lb : LeaveOk r b := ⟨n, hr, hn, hb, hb0, by omega, by omega⟩
  have hr1 := hr.leave hb
  have lc : LeaveOk (r.leave b) c := ⟨n, hr1, hn, hc, hc0, by show 0 ≤ r.count - 1; omega, by show r.count - 1 ≤ n; omega⟩
  have hr2 := hr1.leave hc
  have jq : JoinOk ((r.leave b).leave c) a q := ⟨n, hr2.toRstOk, hn, ha, hq, haq⟩
  have ml : ((((r.leave b).leave c).join a q).join a s).mark.length = n := hr.mark
  have wmem := fun e (he : e ∈ (wantsF r a b c p q s).1) => wantsF_mem hp hq hs he
  have wlen := wantsF_len r a b c p q s
  cases hk : (wantsF r a b c p q s).2 with
  | false =>
    rw [show smallF r a b c p q s = (r, false) by unfold smallF; rw [hk, if_neg (by decide)]] at hQ
    refine go ?_
    simp only [hk]
    refine go ?_
    show Q .ret _
    refine finL_ret hQ rfl rfl rfl
  | true =>
    have js : JoinOk (((r.leave b).leave c).join a q) a s := ⟨n, (hr2.join ha hq haq (hnq hk)).toRstOk, hn, ha, hs, has⟩
    refine go ?_
    simp only [hk]
    refine go ?_
    rw [show smallF r a b c p q s = (⟨((((r.leave b).leave c).join a q).join a s).near, layM (((((r.leave b).leave c).join a q).join a s).mark.set a 1) (wantsF r a b c p q s).1, ((((r.leave b).leave c).join a q).join a s).gone, ((((r.leave b).leave c).join a q).join a s).count⟩, true) by unfold smallF; rw [hk, if_pos rfl]] at hQ
    generalize (((r.leave b).leave c).join a q).join a s = R at *
    generalize (wantsF r a b c p q s).1 = l at *
    have mM : (R.mark.set a 1).length = n := by rw [List.length_set]; exact ml
    generalize R.mark.set a 1 = M at *
    apply rp_loop (fun k σ => ∃ i : Nat, i ≤ l.length ∧ k = l.length - i ∧ σ = [(0, one (.c (rstO ⟨R.near, layM M (l.take i), R.gone, R.count⟩))), (5, ⟨.one, [.c (.sl true 2 () (EL l))]⟩), (56, ⟨.one, [.view 5 [0]]⟩), (57, iv l.length), (58, iv i)]) l.length
    · exact ⟨0, by omega, by omega, rfl⟩
    rintro k σ ⟨i, hi, rfl, rfl⟩
    by_cases hil : i < l.length
    · obtain ⟨x, hx, hxn⟩ := wmem (ent l i) (by rw [ent_eq hil]; exact List.getElem_mem hil)
      have hs' : layM M (l.take (i + 1)) = (layM M (l.take i)).set x (ent l i).2 := by
        unfold layM
        rw [List.take_succ_eq_append_getElem hil, List.foldl_append, ← ent_eq hil]
        simp only [List.foldl_cons, List.foldl_nil, hx, Int.toNat_natCast]
      have hml : (layM M (l.take i)).length = n := by rw [layM_len, mM]
      have hx2 : x < (layM M (l.take i)).length := by omega
      generalize hE : ent l i = e at *
      obtain ⟨e1, e2⟩ := e
      simp only at hx hs'
      subst hx
      generalize layM M (l.take i) = M' at *
      refine go ?_
      rw [hE]
      refine go ?_
      rw [← hs']
      exact nxt (l.length - (i + 1)) (by omega) ⟨i + 1, by omega, rfl, rfl⟩
    obtain rfl : i = l.length := by omega
    rw [List.take_length]
    refine go ?_
    show Q .ret _
    refine finL_ret hQ rfl rfl rfl
end Go.Proofs.Ytnmocjhpbobahaa.L
namespace Go.Proofs.Ytnmocjhpbobahaa.L
open Go Go.RowKit
set_option maxRecDepth 100000
theorem rise_ext : ∀ {l m : List Int}, l.Pairwise (· < ·) → m.Pairwise (· < ·) → (∀ x, x ∈ l ↔ x ∈ m) → l = m
  | [], [], _, _, _ => rfl
  | [], y :: m, _, _, h => absurd ((h y).2 List.mem_cons_self) List.not_mem_nil
  | x :: l, [], _, _, h => absurd ((h x).1 List.mem_cons_self) List.not_mem_nil
  | x :: l, y :: m, h1, h2, h => by
    rw [List.pairwise_cons] at h1 h2
    have hxy : x = y := by
      rcases List.mem_cons.1 ((h x).1 List.mem_cons_self) with e | e
      · exact e
      · rcases List.mem_cons.1 ((h y).2 List.mem_cons_self) with e' | e'
        · exact e'.symm
        · have := h2.1 x e; have := h1.1 y e'; omega
    subst hxy
    congr 1
    refine rise_ext h1.2 h2.2 fun z => ?_
    constructor
    · intro hz
      rcases List.mem_cons.1 ((h z).1 (List.mem_cons_of_mem _ hz)) with e | e
      · have := h1.1 z hz; omega
      · exact e
    · intro hz
      rcases List.mem_cons.1 ((h z).2 (List.mem_cons_of_mem _ hz)) with e | e
      · have := h2.1 z hz; omega
      · exact e
/-- How many neighbours. -/
abbrev deg (r : Rst) (v : Nat) : Nat := (nthR r.near v).length
/-- Two that have three neighbours each, and an apex u. -/
structure WideI (n : Nat) (r : Rst) (u x y s t : Nat) : Prop where
  un : u < n
  xn : x < n
  yn : y < n
  sn : s < n
  tn : t < n
  xy : x < y
  ux : u ≠ x
  uy : u ≠ y
  du : deg r u ≠ 3
  dx : deg r x = 3
  dy : deg r y = 3
  cnt : 4 < r.count
  xu : (u : Int) ∈ nthR r.near x
  yu : (u : Int) ∈ nthR r.near y
  yx : (x : Int) ∈ nthR r.near y
  xs : (s : Int) ∈ nthR r.near x
  yt : (t : Int) ∈ nthR r.near y
  su : s ≠ u
  sx : s ≠ x
  sy : s ≠ y
  tu : t ≠ u
  tx : t ≠ x
  ty : t ≠ y
  ax : ∀ z ∈ nthR r.near x, z = u ∨ z = y ∨ z = s
  ay : ∀ z ∈ nthR r.near y, z = u ∨ z = x ∨ z = t
theorem WideI.ok {n : Nat} {r : Rst} {u x y s t : Nat} (h : RstI n r) (hn : n ≤ 1000000) (w : WideI n r u x y s t) {c : Cu} (hc : c = ((u : Int), (x : Int), (y : Int), -1, (s : Int), (t : Int)) ∨ c = ((x : Int), (u : Int), (y : Int), (s : Int), -1, (t : Int)) ∨ c = ((x : Int), (y : Int), (u : Int), (s : Int), (t : Int), -1)) : WideOk r c :=
  ⟨n, u, x, y, s, t, h.toRstS, hn, w.un, w.xn, w.yn, w.sn, w.tn, w.xy, fun e => w.tx e.symm, by have := w.dy; unfold deg at this; omega, h.cnt_le, hc⟩
theorem WideI.gone {n : Nat} {r : Rst} {u x y s t : Nat} (h : RstI n r) (w : WideI n r u x y s t) : nthB r.gone x = false ∧ nthB r.gone y = false ∧ nthB r.gone t = false ∧ nthB r.gone s = false :=
  ⟨h.left w.xn w.xu, h.left w.yn w.yu, h.left w.tn (h.sym y t w.yn w.tn w.yt), h.left w.sn (h.sym x s w.xn w.sn w.xs)⟩
theorem lay_mk {n : Nat} {m : List Int} (hl : m.length = n) (hm : ∀ v, v < n → nth m v = 0 ∨ nth m v = 1 ∨ nth m v = 2) {v : Nat} (hv : v < n) {k : Int} (hk : k = 1 ∨ k = 2) : (m.set v k).length = n ∧ ∀ v', v' < n → nth (m.set v k) v' = 0 ∨ nth (m.set v k) v' = 1 ∨ nth (m.set v k) v' = 2 := by
  refine ⟨by rw [List.length_set]; exact hl, fun v' hv' => ?_⟩
  rw [nth_set (by omega)]
  split
  · omega
  · exact hm v' hv'
theorem WideI.step {n : Nat} {r : Rst} {u x y s t : Nat} (h : RstI n r) (w : WideI n r u x y s t) : RstI n (wideF r u x y s t).1 ∧ ((wideF r u x y s t).2 = true → (wideF r u x y s t).1.count = r.count - 1) := by
  unfold wideF
  split
  · exact ⟨h, fun e => by cases e⟩
  · next hn =>
    have hst : s ≠ t := fun e => hn (.inl e)
    obtain ⟨gx, gy, gt, gs⟩ := w.gone h
    have h1 := h.leave w.yn gy
    have gl : y < r.gone.length := by rw [h.toRstOk.gone]; exact w.yn
    have g1 : ∀ v, v ≠ y → nthB (r.leave y).gone v = nthB r.gone v := fun v hv => by
      show nthB (r.gone.set y true) v = _
      rw [nthB_set gl, if_neg (fun e => hv e.symm)]
    have hxt : x ≠ t := fun e => w.tx e.symm
    have hxy : x ≠ y := by have := w.xy; omega
    have hno : (t : Int) ∉ nthR (r.leave y).near x := by
      intro e
      have := ((leave_mem h.toRstS w.yn w.xn _).1 e).1
      rcases w.ax _ this with e | e | e
      · exact w.tu (by omega)
      · exact w.ty (by omega)
      · exact hst (by omega)
    have h2 := h1.join w.xn w.tn hxt hno (by rw [g1 x hxy]; exact gx) (by rw [g1 t w.ty]; exact gt)
    obtain ⟨l1, m1⟩ := lay_mk h2.mark h2.mks w.un (k := 2) (.inr rfl)
    obtain ⟨l2, m2⟩ := lay_mk l1 m1 w.xn (k := 1) (.inl rfl)
    obtain ⟨l3, m3⟩ := lay_mk l2 m2 w.sn (k := 1) (.inl rfl)
    obtain ⟨l4, m4⟩ := lay_mk l3 m3 w.tn (k := 1) (.inl rfl)
    exact ⟨h2.marks l4 m4, fun _ => rfl⟩
/-- Three that have three neighbours each. -/
structure SmallI (n : Nat) (r : Rst) (a b c p q s : Nat) : Prop where
  ab : a < b
  bc : b < c
  cn : c < n
  pn : p < n
  qn : q < n
  sn : s < n
  cnt : 4 < r.count
  da : deg r a = 3
  db : deg r b = 3
  dc : deg r c = 3
  eab : (b : Int) ∈ nthR r.near a
  eac : (c : Int) ∈ nthR r.near a
  ebc : (c : Int) ∈ nthR r.near b
  eap : (p : Int) ∈ nthR r.near a
  ebq : (q : Int) ∈ nthR r.near b
  ecs : (s : Int) ∈ nthR r.near c
  pa : p ≠ a ∧ p ≠ b ∧ p ≠ c
  qa : q ≠ b ∧ q ≠ a ∧ q ≠ c
  sa : s ≠ c ∧ s ≠ a ∧ s ≠ b
  aa : ∀ z ∈ nthR r.near a, z = b ∨ z = c ∨ z = p
  ba : ∀ z ∈ nthR r.near b, z = a ∨ z = c ∨ z = q
  ca : ∀ z ∈ nthR r.near c, z = a ∨ z = b ∨ z = s
theorem wants_ne {r : Rst} {a b c p q s : Nat} (h : (wantsF r a b c p q s).2 = true) : p ≠ q ∧ p ≠ s ∧ q ≠ s := by
  unfold wantsF at h
  split at h
  · cases h
  · next hn => exact ⟨fun e => hn (.inl e), fun e => hn (.inr (.inl e)), fun e => hn (.inr (.inr (.inl e)))⟩
theorem SmallI.cb {n : Nat} {r : Rst} {a b c p q s : Nat} (h : RstI n r) (w : SmallI n r a b c p q s) : (a : Int) ∈ nthR (r.leave b).near c := by
  have h1 := w.ab; have h2 := w.bc; have h3 := w.cn
  rw [leave_mem h.toRstS (by omega) w.cn]
  exact ⟨h.sym a c (by omega) w.cn w.eac, by omega, by omega⟩
theorem SmallI.noq {n : Nat} {r : Rst} {a b c p q s : Nat} (h : RstI n r) (w : SmallI n r a b c p q s) (hw : (wantsF r a b c p q s).2 = true) : (q : Int) ∉ nthR ((r.leave b).leave c).near a := by
  have h1 := w.ab; have h2 := w.bc; have h3 := w.cn
  intro e
  rw [leave_mem (h.toRstS.leave (by omega)) w.cn (by omega), leave_mem h.toRstS (by omega) (by omega)] at e
  have := (wants_ne hw).1
  rcases w.aa _ e.1.1 with e' | e' | e'
  · exact w.qa.1 (by omega)
  · exact w.qa.2.2 (by omega)
  · exact this (by omega)
theorem layM_mk {n : Nat} : ∀ {l : List (Int × Int)} {m : List Int}, m.length = n → (∀ v, v < n → nth m v = 0 ∨ nth m v = 1 ∨ nth m v = 2) → (∀ e ∈ l, (∃ x : Nat, e.1 = x ∧ x < n) ∧ (e.2 = 1 ∨ e.2 = 2)) → ((layM m l).length = n ∧ ∀ v, v < n → nth (layM m l) v = 0 ∨ nth (layM m l) v = 1 ∨ nth (layM m l) v = 2)
  | [], m, hl, hm, _ => ⟨hl, hm⟩
  | e :: l, m, hl, hm, he => by
    obtain ⟨⟨x, hx, hxn⟩, hk⟩ := he e List.mem_cons_self
    obtain ⟨l1, m1⟩ := lay_mk hl hm hxn hk
    have := layM_mk (l := l) l1 m1 (fun e' h' => he e' (List.mem_cons_of_mem _ h'))
    unfold layM at this ⊢
    rw [List.foldl_cons, hx, Int.toNat_natCast]
    exact this
theorem wantsF_mem2 {r : Rst} {a b c p q s : Nat} {e : Int × Int} (he : e ∈ (wantsF r a b c p q s).1) : (e.1 = p ∨ e.1 = q ∨ e.1 = s) ∧ (e.2 = 1 ∨ e.2 = 2) := by
  unfold wantsF at he
  split at he
  · cases he
  · simp only at he
    unfold wantsAll at he
    rcases List.mem_append.1 he with he | he
    · rcases List.mem_append.1 he with he | he
      · exact ⟨.inl (wantOne_mem he).1, (wantOne_mem he).2⟩
      · exact ⟨.inr (.inl (wantOne_mem he).1), (wantOne_mem he).2⟩
    · exact ⟨.inr (.inr (wantOne_mem he).1), (wantOne_mem he).2⟩
theorem SmallI.step {n : Nat} {r : Rst} {a b c p q s : Nat} (h : RstI n r) (w : SmallI n r a b c p q s) : RstI n (smallF r a b c p q s).1 ∧ ((smallF r a b c p q s).2 = true → (smallF r a b c p q s).1.count = r.count - 2) := by
  have h1 := w.ab; have h2 := w.bc; have h3 := w.cn
  have bn : b < n := by omega
  have an : a < n := by omega
  unfold smallF
  split
  · next hw =>
    obtain ⟨n1, n2, n3⟩ := wants_ne hw
    have ga : nthB r.gone a = false := h.left an w.eab
    have gb : nthB r.gone b = false := h.left bn w.ebc
    have gc : nthB r.gone c = false := h.left w.cn w.ecs
    have gq : nthB r.gone q = false := h.left w.qn (h.sym b q bn w.qn w.ebq)
    have gs : nthB r.gone s = false := h.left w.sn (h.sym c s w.cn w.sn w.ecs)
    have gl : b < r.gone.length := by rw [h.toRstOk.gone]; exact bn
    have k1 := h.leave bn gb
    have g1 : ∀ v, v ≠ b → nthB (r.leave b).gone v = nthB r.gone v := fun v hv => by
      show nthB (r.gone.set b true) v = _
      rw [nthB_set gl, if_neg (fun e => hv e.symm)]
    have k2 := k1.leave w.cn (by rw [g1 c (by omega)]; exact gc)
    have gl2 : c < (r.leave b).gone.length := by rw [k1.toRstOk.gone]; exact w.cn
    have g2 : ∀ v, v ≠ b → v ≠ c → nthB ((r.leave b).leave c).gone v = nthB r.gone v := fun v hv hv2 => by
      show nthB ((r.leave b).gone.set c true) v = _
      rw [nthB_set gl2, if_neg (fun e => hv2 e.symm), g1 v hv]
    have hq := w.noq h hw
    have k3 := k2.join an w.qn (fun e => w.qa.2.1 e.symm) hq (by rw [g2 a (by omega) (by omega)]; exact ga) (by rw [g2 q w.qa.1 w.qa.2.2]; exact gq)
    have hs : (s : Int) ∉ nthR (((r.leave b).leave c).join a q).near a := by
      intro e
      rcases (join_mem k2.toRstOk an w.qn (fun e => w.qa.2.1 e.symm) a _).1 e with e | ⟨e, _⟩ | ⟨_, e⟩
      · rw [leave_mem (h.toRstS.leave bn) w.cn an, leave_mem h.toRstS bn an] at e
        rcases w.aa _ e.1.1 with e' | e' | e'
        · exact w.sa.2.2 (by omega)
        · exact w.sa.1 (by omega)
        · exact n2 (by omega)
      · exact w.qa.2.1 e.symm
      · exact n3 (by omega)
    have k4 := k3.join an w.sn (fun e => w.sa.2.1 e.symm) hs (by show nthB ((r.leave b).leave c).gone a = false; rw [g2 a (by omega) (by omega)]; exact ga) (by show nthB ((r.leave b).leave c).gone s = false; rw [g2 s w.sa.2.2 w.sa.1]; exact gs)
    obtain ⟨l1, m1⟩ := lay_mk k4.mark k4.mks an (k := 1) (.inl rfl)
    obtain ⟨l2, m2⟩ := layM_mk (l := (wantsF r a b c p q s).1) l1 m1 (fun e he => ⟨wantsF_mem w.pn w.qn w.sn he, (wantsF_mem2 he).2⟩)
    refine ⟨k4.marks l2 m2, fun _ => ?_⟩
    show r.count - 1 - 1 = r.count - 2
    omega
  · exact ⟨h, fun e => by cases e⟩
end Go.Proofs.Ytnmocjhpbobahaa.L
