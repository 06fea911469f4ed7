/- graph.Has: its contract. -/
import Derived.Test.YtngglgkemonibaaQ30
import Derived.Test.YtngglgkemonibaaQ33
set_option linter.unusedVariables false
set_option linter.unusedSimpArgs false
set_option linter.unnecessarySimpa false
namespace Go.Proofs.Ytngglgkemonibaa.P
open Go.RowKit Go.Shelf Go.Proofs.YtngglgkemonibaaW.PrintWords Go.Proofs.Ytngglgkemonibaa.G
set_option linter.unusedVariables false
set_option linter.unusedSimpArgs false

attribute [local go_sem] Oper.semAt_some

theorem below_lt {w W : World} (h : Below w.heap.size w W) {i : Nat} (hi : i < w.heap.size) : i < W.heap.size := Nat.lt_of_lt_of_le hi h.size
theorem C_lt {α : Type} {d : Kd α} {w : World} {A : Option Addr} {n : Nat} {xs : List α} (h : d.C w A n xs) (hs : 0 < d.sz) : ∀ ad, A = some ad → 0 < xs.length → ad.block < w.heap.size := by
  intro ad he hn
  obtain ⟨ad', e, hc⟩ := h.2.2 (by have := h.1; omega)
  rw [he] at e; cases e
  obtain ⟨c, hs2, _, hcell⟩ := hc 0 _ (List.getElem?_eq_getElem hn)
  have h0 := hcell 0 (c[0]'(by omega)) (List.getElem?_eq_getElem (by omega))
  have := World.block_lt_of_cell? _ _ h0
  rwa [add_block] at this

theorem box2 (w : World) (o1 o2 : Obj) : ((w.alloc o1).alloc o2).heap[w.heap.size]? = some o1 ∧ ((w.alloc o1).alloc o2).heap[w.heap.size + 1]? = some o2 ∧ ((w.alloc o1).alloc o2).heap.size = w.heap.size + 2 ∧ Below w.heap.size w ((w.alloc o1).alloc o2) := by
  refine ⟨(Below.heap_alloc _ _ _ (by simp)).trans (World.alloc_heap_new w o1), ?_, by simp, ((Below.refl _ w).alloc (Nat.le_refl _) _).alloc (by simp) _⟩
  have := World.alloc_heap_new (w.alloc o1) o2
  rwa [World.size_alloc] at this
theorem box3 (w : World) (o1 o2 o3 : Obj) : (((w.alloc o1).alloc o2).alloc o3).heap[w.heap.size]? = some o1 ∧ (((w.alloc o1).alloc o2).alloc o3).heap[w.heap.size + 1]? = some o2 ∧ (((w.alloc o1).alloc o2).alloc o3).heap[w.heap.size + 1 + 1]? = some o3 ∧
    (((w.alloc o1).alloc o2).alloc o3).heap.size = w.heap.size + 3 ∧ Below w.heap.size w (((w.alloc o1).alloc o2).alloc o3) := by
  obtain ⟨h1, h2, h3, h4⟩ := box2 w o1 o2
  refine ⟨(Below.heap_alloc _ _ _ (by omega)).trans h1, (Below.heap_alloc _ _ _ (by omega)).trans h2, ?_, by simp, h4.alloc (by omega) _⟩
  have := World.alloc_heap_new ((w.alloc o1).alloc o2) o3
  rwa [h3] at this

theorem own_blk {W W' : World} {row : Option Nat} {B i : Nat} {cs : Array Value} {t : TypeId} (h : W.heap[i]? = some (.cells cs t (0, 0))) (hg : W.grownBy W' row) (hr : ∀ r, row = some r → B ≤ r ∧ ∃ o : Obj, W.heap[r]? = some o ∧ o.isCells = false) :
    W'.heap[i]? = some (.cells cs t (0, 0)) :=
  blk_grown h hg (fun e => by obtain ⟨_, o, ho, hc⟩ := hr i e.symm; rw [h] at ho; cases ho; simp [Obj.isCells] at hc)
theorem own_below_ {w W W' : World} {row : Option Nat} {B : Nat} (hB : w.heap.size ≤ B) (h : Below w.heap.size w W) (hg : W.grownBy W' row) (hr : ∀ r, row = some r → B ≤ r ∧ ∃ o : Obj, W.heap[r]? = some o ∧ o.isCells = false) : Below w.heap.size w W' :=
  h.grown hg h.size (fun k e => Nat.le_trans hB (hr k e).1)
theorem kpn_set {n₀ Bv : Nat} {W : World} {g : Nat} {cs : Array Value} {t : TypeId} (h : W.heap[g]? = some (.cells cs t (0, 0))) (ht : t ≠ 46) (hn : n₀ ≤ g) (hv : Bv ≠ g) (j : Nat) (u : Value) : KpN n₀ Bv W (W.setCell ⟨g, j, none⟩ u) :=
  ⟨(Below.refl _ _).setCell (p := ⟨g, j, none⟩) hn u, fun i cs' hi => by
    have hne : i ≠ g := fun e => by subst e; rw [h] at hi; cases hi; exact ht rfl
    exact (Below.heap_setCell W ⟨g, j, none⟩ u i hne).trans hi, Below.heap_setCell W ⟨g, j, none⟩ u Bv hv⟩

set_option maxRecDepth 100000 in
set_option maxHeartbeats 4000000 in
theorem has_right (N a b : Int) (A : Option Addr) (cap : Nat) (l : List S46) (w : World) (hC : Kd.C k46 w A l.length l) (hcap : l.length ≤ cap) (hR : Right N (ed l)) :
    CallsIn Fence.wide 5 Try.prog 31 #[.agg #[.int .i64 N, .slice A l.length cap], .int .i64 a, .int .i64 b] w fun e W' => e = .returned (.bool (decide (b ∈ nearSeq a l))) ∧ Below w.heap.size w W' := by
  refine callsIn_of_wp_marks Try.func31 rfl trivial ?_ rfl
  simp only [Try.ntmps31, List.size_toArray, List.length_cons, List.length_nil, Nat.reduceAdd, Nat.reduceSub, Array.replicate_succ, Array.replicate_zero, List.push_toArray, List.append_toArray, List.nil_append, List.cons_append]
  have hRf : graph_Right.f 4006 N l = some true := by rw [right_f N l 4006 (Nat.le_refl _), decide_eq_true hR]
  have HRf := Lib.hid hRf
  clear hRf
  have HC := Lib.hid hC
  clear hC
  obtain ⟨hG0, hB0, hX0, hS0, hb0⟩ := box3 w (.cells #[.int .i64 N, .slice A l.length cap] 24) (.cells #[.int .i64 b] 3) (.cells #[.bool false] 4)
  gi_wp2_with (first
    | (refine ⟨trivial, ?_⟩; gi_at_call 32; refine (callsIn_wide.2 (graph_Right.calls 4006 N A cap l true _ (Kd.C_below HC.out hb0) hcap HRf.out)).mono ?_; rintro e w1 ⟨rfl, hb1⟩
       have hG1 : w1.heap[w.heap.size]? = some (.cells #[.int .i64 N, .slice A l.length cap] 24 (0, 0)) := (hb1.block _ (by rw [hS0]; omega)).trans hG0
       have hB1 : w1.heap[w.heap.size + 1]? = some (.cells #[.int .i64 b] 3 (0, 0)) := (hb1.block _ (by rw [hS0]; omega)).trans hB0
       have hX1 : w1.heap[w.heap.size + 1 + 1]? = some (.cells #[.bool false] 4 (0, 0)) := (hb1.block _ (by rw [hS0]; omega)).trans hX0
       have hs1 : w.heap.size + 3 ≤ w1.heap.size := hS0 ▸ hb1.size
       have hbw1 : Below w.heap.size w w1 := hb0.trans (hb1.mono (by rw [hS0]; omega))
       clear hb1 hb0 hG0 hB0 hX0 hS0
       have hc1 := blk_cell hG1 0
       have hc2 := blk_cell hG1 1
       have hc3 := blk_cell hB1 0
       have hc4 := blk_cell hX1 0
       simp only [List.getElem?_toArray, List.getElem?_cons_zero, List.getElem?_cons_succ] at hc1 hc2 hc3 hc4)
    | (refine ⟨trivial, ?_⟩; gi_at_call 46; refine (near_in Fence.wide _ trivial rfl _ _ _ _ _ _).mono ?_; rintro e w2 ⟨rfl, rfl⟩))
  obtain ⟨hg2, hv2, hs2, hb2⟩ := box2 w1 (.cells #[.int .i64 N, .slice A l.length cap] 24) (.cells #[.int .i64 a] 3)
  obtain ⟨w2, hw2⟩ : ∃ w2, (w1.alloc (.cells #[.int .i64 N, .slice A l.length cap] 24)).alloc (.cells #[.int .i64 a] 3) = w2 := ⟨_, rfl⟩
  rw [hw2] at hg2 hv2 hs2 hb2 ⊢
  have hB2 : w2.heap[w.heap.size + 1]? = some (.cells #[.int .i64 b] 3 (0, 0)) := (hb2.block _ (by omega)).trans hB1
  have hX2 : w2.heap[w.heap.size + 1 + 1]? = some (.cells #[.bool false] 4 (0, 0)) := (hb2.block _ (by omega)).trans hX1
  have hbw2 : Below w.heap.size w w2 := hbw1.trans (hb2.mono (by omega))
  have hC2 : Kd.C k46 w2 A l.length l := Kd.C_below HC.out hbw2
  clear hc1 hc2 hc3 hc4
  have hne : ∀ e ∈ l, e.f0 ≠ e.f1 := fun e he h => by
    have := hR.ends (e.f0, e.f1) (List.mem_map.2 ⟨e, he, rfl⟩); simp only at this; omega
  refine wpIn_rangeFunc_ownG rfl (by omega) (gf := 61) (lb := #[.pointer (some ⟨w1.heap.size, 0, none⟩), .pointer (some ⟨w1.heap.size + 1, 0, none⟩)]) rfl trivial (enters_of Try.func61 (by kernel_rfl) rfl)
    (near_stops Fence.wide 4 trivial rfl (by omega) w1.heap.size (w1.heap.size + 1) w.heap.size cap a A l hne w2 (C_lt HC.out (by decide)) hbw2.size ⟨N, hg2⟩ hv2 hC2) KpN.trans (KpN.put hbw2.size (by omega)) (Below.refl _ _) (fun _ => rfl)
    (fun pre W => (∀ x ∈ pre, x ≠ b) ∧ W.heap[w.heap.size + 1]? = some (.cells #[.int .i64 b] 3 (0, 0)) ∧ W.heap[w.heap.size + 1 + 1]? = some (.cells #[.bool false] 4 (0, 0)) ∧ Below w.heap.size w W)
    (fun c pre W => c = .ret ∧ b ∈ pre ∧ W.heap[w.heap.size + 1 + 1]? = some (.cells #[.bool true] 4 (0, 0)) ∧ Below w.heap.size w W)
    (fun s W W' row hs hg hr => ⟨hs.1, own_blk hs.2.1 hg hr, own_blk hs.2.2.1 hg hr, own_below_ hbw2.size hs.2.2.2 hg hr⟩)
    (fun c s W W' row hs hg hr => ⟨hs.1, hs.2.1, own_blk hs.2.2.1 hg hr, own_below_ hbw2.size hs.2.2.2 hg hr⟩)
    ⟨by simp, hB2, hX2, hbw2⟩
    (fun x => { tmps := #[.agg #[.int .i64 N, .slice A l.length cap], .int .i64 a, .int .i64 b, .pointer (some ⟨w.heap.size, 0, none⟩), undef, .pointer (some ⟨w.heap.size + 1, 0, none⟩), .pointer (some ⟨w.heap.size + 1 + 1, 0, none⟩), .int .i64 x,
      .agg #[.int .i64 N, .slice A l.length cap], .bool true, .bool false, .agg #[.int .i64 N, .slice A l.length cap], .int .i64 a, .func (.func 61) #[] #[.pointer (some ⟨w1.heap.size, 0, none⟩), .pointer (some ⟨w1.heap.size + 1, 0, none⟩)], .int .i64 x, undef, undef, undef], defers := [] }) ?assign ?body ?done ?stop
  case assign =>
    intro l x W K hK
    gi_wp2
    exact hK
  case body =>
    rintro lp pre x W ⟨hp, hB, hX, hW⟩ _
    have c1 := (blk_cell hB 0).trans rfl
    have c2 := (blk_cell hX 0).trans rfl
    have f2 := blk_frozen hX 0
    by_cases hx : x = b
    · have T : (x == b) = true := beq_iff_eq.2 hx
      have HX := Lib.hid hx
      clear hx
      gi_wp2
      exact ⟨(KeepsOthers.setCell _ _ _).from _, rfl, by simp [HX.out], blk_set hX 0 _, hW.setCell (p := ⟨w.heap.size + 1 + 1, 0, none⟩) (by show w.heap.size ≤ w.heap.size + 1 + 1; omega) _⟩
    · have T : (x == b) = false := beq_eq_false_iff_ne.2 hx
      have HX := Lib.hid hx
      clear hx
      gi_wp2
      exact ⟨KeepsFrom.refl _ _, KpN.refl _ _ _, fun y hy => (List.mem_append.1 hy).elim (hp y) (fun e => by simp at e; subst e; exact HX.out), hB, hX, hW⟩
  case done =>
    rintro D ys W hD rfl ⟨hne2, hB, hX, hW⟩ hK
    have c2 := (blk_cell hX 0).trans rfl
    have f2 := blk_frozen hX 0
    gi_wp2
    have hK' := (KeepsOthers.setCell W ⟨w.heap.size + 1 + 1, 0, none⟩ (.bool false)).same D _ hK rfl
    refine ⟨by simp, .inl ⟨_, _, rfl, run_takeDeferred hK', ?_⟩⟩
    have hc5 := cell_kept (World.cell?_setCell_same' W ⟨w.heap.size + 1 + 1, 0, none⟩ (.bool false) (by rw [c2]; rfl)) (grownBy_putObj' _ D (.deferred none)) (fun r e => by cases e; exact ⟨_, hK', rfl⟩)
    have hfin : decide (b ∈ nearSeq a l) = false := decide_eq_false fun h => hne2 b h rfl
    refine ⟨.bool false, ?_, by rw [hfin], (hW.setCell (p := ⟨w.heap.size + 1 + 1, 0, none⟩) (by show w.heap.size ≤ w.heap.size + 1 + 1; omega) _).trans (belowK_b (w := w) (Nat.le_refl _) _ D _ _ (Nat.le_trans hbw2.size hD) hK' rfl rfl)⟩
    simp [results, Try.f31, go_sem, hc5]
  case stop =>
    rintro D c pre W hD hpre ⟨rfl, hmem, hX, hW⟩ hK
    have c2 := (blk_cell hX 0).trans rfl
    gi_wp2
    refine ⟨by simp, .inl ⟨_, _, rfl, run_takeDeferred hK, ?_⟩⟩
    have hc5 := cell_kept c2 (grownBy_putObj' _ D (.deferred none)) (fun r e => by cases e; exact ⟨_, hK, rfl⟩)
    have hfin : decide (b ∈ nearSeq a l) = true := decide_eq_true (hpre.subset hmem)
    refine ⟨.bool true, ?_, by rw [hfin], hW.trans (belowK_b (w := w) (Nat.le_refl _) W D _ _ (Nat.le_trans hbw2.size hD) hK rfl rfl)⟩
    simp [results, Try.f31, go_sem, hc5]

set_option maxRecDepth 100000 in
set_option maxHeartbeats 4000000 in
theorem has_wrong (N a b : Int) (A : Option Addr) (cap : Nat) (l : List S46) (w : World) (hC : Kd.C k46 w A l.length l) (hcap : l.length ≤ cap) (hR : ¬ Right N (ed l)) :
    Calls Try.prog 31 #[.agg #[.int .i64 N, .slice A l.length cap], .int .i64 a, .int .i64 b] w fun e W' => e = .returned (.bool false) ∧ Below w.heap.size w W' := by
  have hRf : graph_Right.f 4006 N l = some false := by rw [right_f N l 4006 (Nat.le_refl _), decide_eq_false hR]
  have HRf := Lib.hid hRf
  clear hRf
  have HC := Lib.hid hC
  clear hC
  obtain ⟨hG0, hB0, hX0, hS0, hb0⟩ := box3 w (.cells #[.int .i64 N, .slice A l.length cap] 24) (.cells #[.int .i64 b] 3) (.cells #[.bool false] 4)
  go_enter Try.func31, Try.ntmps31
  go_wp2_with (
    go_at_call 32
    refine (graph_Right.calls 4006 N A cap l false _ (Kd.C_below HC.out hb0) hcap HRf.out).mono ?_
    rintro e w1 ⟨rfl, hb1⟩
    have hX1 : w1.heap[w.heap.size + 1 + 1]? = some (.cells #[.bool false] 4 (0, 0)) := (hb1.block _ (by rw [hS0]; omega)).trans hX0
    have hbw1 : Below w.heap.size w w1 := hb0.trans (hb1.mono (by rw [hS0]; omega))
    clear hb1 hb0 hG0 hB0 hX0 hS0
    have c2 := (blk_cell hX1 0).trans rfl
    have f2 := blk_frozen hX1 0)
  have hc5 := World.cell?_setCell_same' w1 ⟨w.heap.size + 1 + 1, 0, none⟩ (.bool false) (by rw [c2]; rfl)
  refine bodyPost_ret (v := .bool false) (by simp [results, Try.f31, go_sem, hc5]) rfl ⟨rfl, hbw1.setCell (p := ⟨w.heap.size + 1 + 1, 0, none⟩) (by show w.heap.size ≤ w.heap.size + 1 + 1; omega) _⟩

/-- graph.Has, as a function on lists -/
def graph_Has.f (n : Int) (l : List S46) (a b : Int) : Option Bool := some (decide (Right n (ed l)) && decide (b ∈ nearSeq a l))

theorem graph_Has.calls (a0_0 : Int) (A0_1 : Option Addr) (c0_1 : Nat) (l0_1 : List S46) (a1 : Int) (a2 : Int) (r : Bool) (w : World) (hr0_1 : Kd.C k46 w A0_1 l0_1.length l0_1) (hc0_1 : l0_1.length ≤ c0_1) (h : graph_Has.f a0_0 l0_1 a1 a2 = some r) :
    Calls Try.prog 31 #[.agg #[.int .i64 a0_0, .slice A0_1 l0_1.length c0_1], .int .i64 a1, .int .i64 a2] w fun e w' => e = .returned (.bool r) ∧ Below w.heap.size w w' := by
  obtain rfl := Option.some.inj h
  by_cases hR : Right a0_0 (ed l0_1)
  · rw [decide_eq_true hR, Bool.true_and]
    exact callsIn_wide.1 (has_right a0_0 a1 a2 A0_1 c0_1 l0_1 w hr0_1 hc0_1 hR)
  · rw [decide_eq_false hR, Bool.false_and]
    exact has_wrong a0_0 a1 a2 A0_1 c0_1 l0_1 w hr0_1 hc0_1 hR

end Go.Proofs.Ytngglgkemonibaa.P
