/- slices.Values, AppendSeq, Collect, Sorted over it, at []int; then walk.unlike. walk.unlike: no number stands twice. -/
import Derived.Test.YtngglgkemonibaaQ36
import Derived.Test.YtngglgkemonibaaQ37
set_option linter.unusedVariables false
set_option linter.unusedSimpArgs false
set_option linter.unnecessarySimpa false
namespace Go.Proofs.Ytngglgkemonibaa.P
open Go.RowKit Go.Sort Go.Shelf Go.Proofs.YtngglgkemonibaaW.PrintWords
set_option linter.unusedVariables false
set_option linter.unusedSimpArgs false

attribute [local go_sem] Oper.semAt_some

/-- THE SLICE VALUE sv HOLDS THE ints zs, in a block below n₀; or there are none. -/
def Ints (n₀ : Nat) (W : World) (sv : Value) (zs : List Int) : Prop :=
  (∃ A c, sv = .slice A 0 c ∧ zs = []) ∨ ∃ b off cap, sv = .slice (some ⟨b, off, none⟩) zs.length cap ∧ b < n₀ ∧ ∀ j, j < zs.length → W.cell? ⟨b, off + j, none⟩ = some (.int .i64 (zs[j]?.getD 0))
theorem Ints.below {n₀ : Nat} {A B : World} (h : Below n₀ A B) {sv : Value} {zs : List Int} : Ints n₀ A sv zs → Ints n₀ B sv zs
  | .inl e => .inl e
  | .inr ⟨b, off, cap, e, hb, hc⟩ => .inr ⟨b, off, cap, e, hb, fun j hj => (h.cell (p := ⟨b, off + j, none⟩) hb).trans (hc j hj)⟩

set_option maxRecDepth 100000 in
set_option maxHeartbeats 2000000 in
theorem values1_in (F : Fence) (n : Nat) (h7 : F.fn 69) (hro : F.round = none) (hn : 1 ≤ n) (l Bs n₀ b off cap : Nat) (zs : List Int) (hlen : zs.length ≤ 9223372036854775807) (hb : b < n₀) (J Jx : List Int → World → Prop)
    (hY : ∀ pre x W, J pre W → pre.length < zs.length → YieldAt F (n - 1) Try.prog l #[.int .i64 x] W fun e W' =>
      (e = .returned (.bool true) ∧ J (pre ++ [x]) W' ∧ Below n₀ W W') ∨ (e = .returned (.bool false) ∧ Jx (pre ++ [x]) W'))
    (W : World) (hBs : W.cell? ⟨Bs, 0, none⟩ = some (.slice (some ⟨b, off, none⟩) zs.length cap)) (hc : ∀ j, j < zs.length → W.cell? ⟨b, off + j, none⟩ = some (.int .i64 (zs[j]?.getD 0))) (h0 : J [] W) :
    CallsIn F n Try.prog 69 #[.func (.yield l) #[] #[], .pointer (some ⟨Bs, 0, none⟩)] W fun e W' => (∃ v, e = .returned v) ∧
      ((∃ ys, ys = zs ∧ J ys W') ∨ (∃ pre, pre <+: zs ∧ Jx pre W')) := by
  refine callsIn_of_wp Try.func69 rfl h7 ?_ hro
  simp only [Try.ntmps69, List.size_toArray, List.length_cons, List.length_nil, Nat.reduceAdd, Nat.reduceSub, Array.replicate_succ, Array.replicate_zero, List.push_toArray, List.append_toArray, List.nil_append, List.cons_append]
  gi_wp2
  gi_loopw [7] (fun i wr => ∃ k : Nat, k ≤ zs.length ∧ i = .int .i64 k ∧ J (zs.take k) wr ∧ Below n₀ W wr)
    (fun i _ => zs.length - (intOf i).toNat)
  case atStart => exact ⟨0, Nat.zero_le _, rfl, h0, Below.refl _ _⟩
  case round =>
    obtain ⟨k, hk, rfl, hJs, hnx⟩ := hrel
    by_cases hlt : k < zs.length
    · have hcx' : wr.cell? ⟨b, off + k, none⟩ = some (.int .i64 (zs[k]?.getD 0)) := (hnx.cell (p := ⟨b, off + k, none⟩) hb).trans (hc k hlt)
      have HT : Hid (zs.take (k + 1) = zs.take k ++ [zs[k]?.getD 0]) := Lib.hid (by rw [List.take_succ_eq_append_getElem hlt, List.getElem?_eq_getElem hlt]; rfl)
      generalize zs[k]?.getD 0 = z at hcx' HT
      obtain ⟨fn, tmps, assign, body, hy, hR⟩ := hY _ z wr hJs (by rw [List.length_take]; omega)
      gi_wp2
      refine hR.mono ?_
      rintro e W3 (⟨rfl, hJ3, hk3⟩ | ⟨rfl, hJx3⟩)
      · gi_wp2
        go_roundw
        case rel => exact ⟨k + 1, by omega, by simp, by rw [HT.out]; exact hJ3, hnx.trans hk3⟩
        case measure => simp [intOf]; omega
      · gi_wp2
        refine bodyPost_ret (results_none rfl _ _ _) rfl ?_
        exact ⟨⟨_, rfl⟩, .inr ⟨_, by rw [← HT.out]; exact List.take_prefix _ _, hJx3⟩⟩
    · obtain rfl : k = zs.length := by omega
      gi_wp2
      go_end0
      exact ⟨⟨_, rfl⟩, .inl ⟨_, rfl, by rw [List.take_length] at hJs; exact hJs⟩⟩

set_option maxRecDepth 100000 in
set_option maxHeartbeats 1000000 in
theorem values1_nil_in (F : Fence) (n : Nat) (h7 : F.fn 69) (hro : F.round = none) (l Bs : Nat) (A : Option Addr) (c : Nat) (J : List Int → World → Prop) (W : World) (hBs : W.cell? ⟨Bs, 0, none⟩ = some (.slice A 0 c)) (h0 : J [] W) :
    CallsIn F n Try.prog 69 #[.func (.yield l) #[] #[], .pointer (some ⟨Bs, 0, none⟩)] W fun e W' => (∃ v, e = .returned v) ∧ J [] W' := by
  refine callsIn_of_wp Try.func69 rfl h7 ?_ hro
  simp only [Try.ntmps69, List.size_toArray, List.length_cons, List.length_nil, Nat.reduceAdd, Nat.reduceSub, Array.replicate_succ, Array.replicate_zero, List.push_toArray, List.append_toArray, List.nil_append, List.cons_append]
  gi_wp2
  gi_loopw [7] (fun i wr => i = .int .i64 0 ∧ J [] wr) (fun _ _ => 0)
  case atStart => exact ⟨rfl, h0⟩
  case round =>
    obtain ⟨rfl, hJs⟩ := hrel
    gi_wp2
    go_end0
    exact ⟨⟨_, rfl⟩, hJs⟩

set_option maxHeartbeats 1000000 in
theorem values_in (F : Fence) (n : Nat) (h5 : F.fn 53) (hro : F.round = none) (a : Option Addr) (len cap : Nat) (w : World) :
    CallsIn F n Try.prog 53 #[.slice a len cap] w fun e w' => e = .returned (.func (.func 69) #[] #[.pointer (some ⟨w.heap.size, 0, none⟩)]) ∧ w' = w.alloc (.cells #[.slice a len cap] 25) := by
  refine callsIn_of_wp Try.func53 rfl h5 ?_ hro
  simp only [Try.ntmps53, List.size_toArray, List.length_cons, List.length_nil, Nat.reduceAdd, Nat.reduceSub, Array.replicate_succ, Array.replicate_zero, List.push_toArray, List.append_toArray, List.nil_append, List.cons_append]
  gi_wp2
  go_ret
  exact ⟨rfl, rfl⟩

theorem values_stops (F : Fence) (n : Nat) (h7 : F.fn 69) (hro : F.round = none) (hn : 1 ≤ n) (Bs n₀ : Nat) (sv : Value) (zs : List Int) (hlen : zs.length ≤ 9223372036854775807) (w : World) (hBs : Bs < w.heap.size) (hn₀ : n₀ ≤ w.heap.size)
    (hc : w.cell? ⟨Bs, 0, none⟩ = some sv) (hI : Ints n₀ w sv zs) :
    SeqStopsK F n Try.prog 69 #[.pointer (some ⟨Bs, 0, none⟩)] (fun x : Int => #[Value.int .i64 x]) (Below n₀) (fun ys => ys = zs) (fun pre => pre <+: zs) zs.length w := fun l J Jx W hW _ _ hY h0 => by
  have hc' := (hW.cell (p := ⟨Bs, 0, none⟩) hBs).trans hc
  rcases hI.below (hW.mono hn₀) with ⟨A, c, rfl, rfl⟩ | ⟨b, off, cap, rfl, hb, hcs⟩
  · exact (values1_nil_in F n h7 hro l Bs A c J W hc' h0).mono fun e W' ⟨he, hj⟩ => ⟨he, .inl ⟨_, rfl, hj⟩⟩
  · exact values1_in F n h7 hro hn l Bs n₀ b off cap zs hlen hb J Jx hY W hc' hcs h0

set_option maxRecDepth 100000 in
set_option maxHeartbeats 4000000 in
theorem appendSeq_vals (g : Nat) (lb : Array Value) (eg : ∀ args w, (callFunc g args).run Try.prog w = .ok (.enter g args) w) (n₀ : Nat) (zs : List Int) (hlim : zs.length < 17592186044416) (w : World) (hn₀ : n₀ ≤ w.heap.size)
    (hseq : SeqStopsK Fence.wide 4 Try.prog g lb (fun x : Int => #[Value.int .i64 x]) (Below n₀) (fun ys => ys = zs) (fun pre => pre <+: zs) zs.length w) :
    CallsIn Fence.wide 5 Try.prog 82 #[.slice none 0 0, .func (.func g) #[] lb] w fun e W' => ∃ v : Value, e = .returned v ∧ W'.ownsRow w.heap.size 3 1 v zs.length (zs.map (Value.int .i64)) ∧ Below w.heap.size w W' := by
  refine callsIn_of_wp_marks Try.func82 rfl trivial ?_ rfl
  simp only [Try.ntmps82, List.size_toArray, List.length_cons, List.length_nil, Nat.reduceAdd, Nat.reduceSub, Array.replicate_succ, Array.replicate_zero, List.push_toArray, List.append_toArray, List.nil_append, List.cons_append]
  gi_wp2
  have hX2 : (w.alloc (.cells #[.slice none 0 0] 25)).heap[w.heap.size]? = some (.cells #[.slice none 0 0] 25 (0, 0)) := World.alloc_heap_new w _
  obtain ⟨w2, hw2⟩ : ∃ w2, w.alloc (.cells #[.slice none 0 0] 25) = w2 := ⟨_, rfl⟩
  have hbw2 : Below w.heap.size w w2 := hw2 ▸ (Below.refl _ w).alloc (Nat.le_refl _) _
  have hs2 : w2.heap.size = w.heap.size + 1 := hw2 ▸ World.size_alloc ..
  rw [hw2] at hX2 ⊢
  clear hw2
  obtain ⟨i0, hi, hz0, hz1, hz2⟩ := info_parts info3
  refine wpIn_rangeFunc_ownG rfl (by omega) (gf := g) (lb := lb) rfl trivial eg hseq Below.trans (belowK_b (Nat.le_trans hn₀ hbw2.size)) hbw2 (fun _ => rfl)
    (fun pre W => ∃ v, W.heap[w.heap.size]? = some (.cells #[v] 25 (0, 0)) ∧ W.ownsRow w2.heap.size 3 1 v pre.length (pre.map (Value.int .i64)) ∧ Below w.heap.size w W ∧ w2.heap.size ≤ W.heap.size)
    (fun _ _ _ => False)
    (fun s W W' row hs hg hr => by
      obtain ⟨v, h1, h2, h3, h4⟩ := hs
      refine ⟨v, own_blk h1 hg hr, h2.kept hg ?_, own_below_ hbw2.size h3 hg hr, Nat.le_trans h4 hg.size⟩
      rcases h2.2 with ⟨rfl, _⟩ | ⟨g, cp, cur, rfl, _, hgb, _⟩
      · exact .inl rfl
      · refine .inr fun e' => ?_
        obtain ⟨_, o, ho, hoc⟩ := hr g e'.symm
        rw [hgb] at ho; cases ho; simp [Obj.isCells] at hoc)
    (fun c s W W' row hs hg hr => hs)
    ⟨_, hX2, by simpa using World.ownsRow_nil .., hbw2, Nat.le_refl _⟩
    (fun x => { tmps := #[.slice none 0 0, .func (.func g) #[] lb, .pointer (some ⟨w.heap.size, 0, none⟩), undef, .slice none 0 0, .int .i64 x, .func (.func g) #[] lb, .int .i64 x, undef, undef, undef, undef, undef], defers := [] }) ?assign ?body ?done ?stop
  case assign =>
    intro l x W K hK
    gi_wp2
    exact hK
  case body =>
    rintro lp pre x W ⟨v, hX, hrow, hW, hsz⟩ hlen
    have hvc : W.cell? ⟨w.heap.size, 0, none⟩ = some v := (blk_cell hX 0).trans rfl
    have hr5 := hrow.alloc (.cells #[.int .i64 x] 3)
    have hr6 := cell_one_new W (.int .i64 x) 3
    have hone : ∀ u ∈ [Value.int .i64 x], u.oneCell' = true := by intro u hu; rw [List.mem_singleton.1 hu]; rfl
    have hXa : (W.alloc (.cells #[.int .i64 x] 3)).heap[w.heap.size]? = some (.cells #[v] 25 (0, 0)) := (Below.heap_alloc _ _ _ (blk_lt hX)).trans hX
    have hne2 : some w.heap.size ≠ v.ownBlock := own_ne hrow hX (by decide)
    have hm1 : pre.length + 1 ≤ maxLen := by unfold maxLen; omega
    have hm2 : (pre.length + 1) * 8 ≤ 140737488355328 := by omega
    have hm3 : w2.heap.size ≤ (W.alloc (.cells #[.int .i64 x] 3)).heap.size := by rw [World.size_alloc]; omega
    gi_wp2_with (gi_at_builtin; go_loud (refine wpListIn_append_own _ rfl _ _ 25 rfl w2.heap.size 3 i0 (.int .i64 0) 1 8 Try.underlying25 hi hz0 hz1 hz2 rfl (by decide) _ _ _ rfl hr5 ⟨W.heap.size, 0, none⟩ 1 1 [.int .i64 x] rfl rfl hr6 hone hm1 hm2 hm3 ?_); go_loud (intro v' w3 hown' hgrow _); go_loud (obtain ⟨g', cap', rfl⟩ := ownsRow_succ hown'); go_loud (have hB3 := blk_grown hXa hgrow hne2); go_loud (have hc3 := (blk_cell hB3 0).trans rfl); go_loud (have hf3 := blk_frozen hB3 0))
    have hk3 : Below w.heap.size W w3 := by
      refine (((Below.refl _ W).alloc (Nat.le_trans hbw2.size hsz) _).grown hgrow (by rw [World.size_alloc]; have := hbw2.size; omega) (fun k e => ?_))
      have := own_base hrow k e; have := hbw2.size; omega
    have hk4 := hk3.setCell (p := ⟨w.heap.size, 0, none⟩) (Nat.le_refl _) (.slice (some ⟨g', 0, none⟩) (pre.length + 1) cap')
    refine ⟨?_, hk4.mono hn₀, ⟨_, blk_set hB3 0 _, ?_, hW.trans hk4, ?_⟩⟩
    · refine ((KeepsOthers.alloc W (.cells #[.int .i64 x] 3)).trans ((KeepsOthers.of_grownBy hgrow fun j o ej hj => ?_).trans (KeepsOthers.setCell _ _ _))).from _
      obtain ⟨cells, hcs⟩ := own_typed hr5 j ej
      rw [hcs] at hj; cases hj; rfl
    · rw [List.length_append, List.map_append]
      exact own_setCell hown' (own_ne hown' hB3 (by decide)) _
    · show w2.heap.size ≤ (w3.setCell _ _).heap.size
      have := hgrow.size
      rw [World.size_alloc] at this
      simp only [World.size_setCell]; omega
  case done =>
    rintro D ys W hD rfl ⟨v, hX, hrow, hW, hsz⟩ hK
    have hvc : W.cell? ⟨w.heap.size, 0, none⟩ = some v := (blk_cell hX 0).trans rfl
    gi_wp2
    refine ⟨by simp, .inl ⟨_, _, rfl, run_takeDeferred hK, ?_⟩⟩
    have hbk : Below w.heap.size W (W.putObj D (.deferred none)) := belowK_b (w := w) (Nat.le_refl _) W D _ _ (Nat.le_trans hbw2.size hD) hK rfl rfl
    exact ⟨_, results_tmp rfl _ _ _, _, rfl, own_weaken (ownsRow_putObj hrow _ hK rfl) hbw2.size, hW.trans hbk⟩
  case stop =>
    rintro D c pre W hD hpre h hK
    exact h.elim

set_option maxHeartbeats 1000000 in
theorem collect_vals (g : Nat) (lb : Array Value) (eg : ∀ args w, (callFunc g args).run Try.prog w = .ok (.enter g args) w) (n₀ : Nat) (zs : List Int) (hlim : zs.length < 17592186044416) (w : World) (hn₀ : n₀ ≤ w.heap.size)
    (hseq : SeqStopsK Fence.wide 4 Try.prog g lb (fun x : Int => #[Value.int .i64 x]) (Below n₀) (fun ys => ys = zs) (fun pre => pre <+: zs) zs.length w) :
    Calls Try.prog 68 #[.func (.func g) #[] lb] w fun e W' => ∃ v : Value, e = .returned v ∧ W'.ownsRow w.heap.size 3 1 v zs.length (zs.map (Value.int .i64)) ∧ Below w.heap.size w W' := by
  have HS := Lib.hid hseq
  have HE := Lib.hid eg
  clear hseq eg
  go_enter Try.func68, Try.ntmps68
  go_wp2_with (go_at_call 82; refine (callsIn_wide.1 (appendSeq_vals g lb HE.out n₀ zs hlim _ hn₀ HS.out)).mono ?_; rintro e w1 ⟨v, rfl, hr, hb⟩)
  go_ret
  exact ⟨v, rfl, hr, hb⟩

theorem sorted_ofR {w : World} {base : Nat} {v : Value} {zs : List Int} (h : w.ownsRow base 3 1 v zs.length (zs.map (Value.int .i64))) : Kd.R (Kd.int .i64) 3 w base (fun _ => True) v zs := Kd.R_of_own h (fun _ _ => trivial)

set_option maxHeartbeats 1000000 in
theorem sorted_vals (g : Nat) (lb : Array Value) (eg : ∀ args w, (callFunc g args).run Try.prog w = .ok (.enter g args) w) (n₀ : Nat) (zs : List Int) (hlim : zs.length < 17592186044416) (w : World) (hn₀ : n₀ ≤ w.heap.size)
    (hseq : SeqStopsK Fence.wide 4 Try.prog g lb (fun x : Int => #[Value.int .i64 x]) (Below n₀) (fun ys => ys = zs) (fun pre => pre <+: zs) zs.length w) :
    Calls Try.prog 52 #[.func (.func g) #[] lb] w fun e W' => ∃ v : Value, e = .returned v ∧ Kd.R (Kd.int .i64) 3 W' w.heap.size (fun _ => True) v (sortI zs) ∧ Below w.heap.size w W' := by
  have HS := Lib.hid hseq
  have HE := Lib.hid eg
  clear hseq eg
  have hf : Hid (slices_Sort_int_int.f zs = some (sortI zs)) := Lib.hid (by unfold slices_Sort_int_int.f; rw [if_pos hlim])
  go_enter Try.func52, Try.ntmps52
  go_wp2_with (first
    | (go_at_call 68; refine (collect_vals g lb HE.out n₀ zs hlim _ hn₀ HS.out).mono ?_; rintro e w1 ⟨v, rfl, hr, hb⟩)
    | (go_at_call 44; refine (slices_Sort_int_int.calls _ _ zs _ w w1 hb (sorted_ofR hr) hf.out).mono ?_; rintro e w2 ⟨rfl, hr2, hb2, _⟩))
  go_ret
  exact ⟨v, rfl, Kd.R_mono hr2 (fun _ _ => trivial), hb2⟩

end Go.Proofs.Ytngglgkemonibaa.P
namespace Go.Proofs.Ytngglgkemonibaa.P
open Go.RowKit Go.Sort Go.Shelf Go.Proofs.YtngglgkemonibaaW.PrintWords
set_option linter.unusedVariables false
set_option linter.unusedSimpArgs false

theorem sortI_perm (l : List Int) : (sortI l).Perm l := List.mergeSort_perm l _
theorem sortI_sorted (l : List Int) : (sortI l).Pairwise (· ≤ ·) := by
  have h := List.pairwise_mergeSort (le := fun x y : Int => decide (x ≤ y)) (fun a b c h k => by simp at *; omega) (fun a b => by simp; omega) l
  exact h.imp (fun h => by simpa using h)

theorem compact_full (zs : List Int) : (Lib.compact zs).length = zs.length ↔ ∀ j, j < zs.length → Lib.keeps zs.toArray j = true := by
  unfold Lib.compact Lib.compactUpTo
  rw [List.length_map]
  constructor
  · intro h j hj
    have h2 : ((List.range zs.length).filter (Lib.keeps zs.toArray)).length = (List.range zs.length).length := by rw [h, List.length_range]
    exact List.length_filter_eq_length_iff.1 h2 j (List.mem_range.2 hj)
  · intro h
    rw [List.filter_eq_self.2 (fun j hj => h j (List.mem_range.1 hj)), List.length_range]

theorem next_lt {zs : List Int} (hs : zs.Pairwise (· ≤ ·)) (h : ∀ j, j < zs.length → Lib.keeps zs.toArray j = true) : zs.Pairwise (· < ·) := by
  rw [List.pairwise_iff_getElem] at hs ⊢
  intro i j hi hj hij
  induction j with
  | zero => omega
  | succ j ih =>
    have h1 := h (j + 1) hj
    have h2 : zs[j + 1] ≠ zs[j] := by
      simp only [Lib.keeps, decide_eq_true_eq] at h1
      rcases h1 with h1 | h1
      · omega
      · simpa [getElem!_pos, hj, (by omega : j < zs.length)] using h1
    have h3 := hs j (j + 1) (by omega) hj (by omega)
    rcases Nat.lt_or_ge i j with hlt | hge
    · have := ih (by omega) hlt; omega
    · obtain rfl : i = j := by omega
      omega

theorem compact_nodup (l : List Int) : (Lib.compact (sortI l)).length = l.length ↔ l.Nodup := by
  rw [← sortI_length l, compact_full]
  constructor
  · intro h
    have := next_lt (sortI_sorted l) h
    refine (sortI_perm l).nodup_iff.1 (this.imp (fun h => by omega))
  · intro h j hj
    have hn := (sortI_perm l).nodup_iff.2 h
    simp only [Lib.keeps, decide_eq_true_eq]
    by_cases h0 : j = 0
    · exact .inl h0
    · refine .inr fun he => ?_
      have h1 : j - 1 < (sortI l).length := by omega
      rw [getElem!_pos _ _ (by simpa using hj), getElem!_pos _ _ (by simpa using h1)] at he
      simp only [List.getElem_toArray] at he
      have := (List.getElem_inj hn).1 he
      omega

theorem grownBy_putRowI {w : World} {g n : Nat} (d : Array Int) : w.grownBy (putRow (Value.int .i64) (Sort.ahead w n) g 0 d) (some g) := by
  refine ⟨rfl, rfl, rfl, by simp [putRow, mapBlock, Sort.ahead], fun k hk hne => ?_⟩
  have : g ≠ k := fun e => hne (by rw [e])
  simp [putRow, mapBlock, Sort.ahead, Array.getElem?_modify, this]

def walk_unlike.f (l0 : List Int) : Option Bool := if l0.length < 17592186044416 then some (decide l0.Nodup) else none

/-- slices.Compact on a row of the call's own: what it hands back has as many as are kept -/
theorem compact_own (v : Value) (zs : List Int) (w0 w : World) (hB : Below w0.heap.size w0 w) (ho0 : Kd.R (Kd.int .i64) 3 w w0.heap.size (fun _ => True) v zs) :
    Calls Try.prog 54 #[v] w fun e w' => ∃ A c, e = .returned (.slice A (Lib.compact zs).length c) ∧ Below w0.heap.size w0 w' := by
  have ho := Kd.own_of_R ho0
  rcases ho.2 with ⟨rfl, hz⟩ | ⟨g, cap, cur, rfl, hbase, hgb, r1, r2, r3, r4⟩
  · have hl : zs = [] := List.eq_nil_of_length_eq_zero hz
    subst hl
    refine (Try.slices_Compact_int_empty none 0 w).mono ?_
    rintro e w' ⟨rfl, rfl⟩
    exact ⟨none, 0, rfl, hB⟩
  · have hH : Holds (Value.int .i64) w g 0 zs.toArray := holds_of_blockI hgb (by simpa [encs] using r4)
    refine (Try.slices_Compact_int g 0 cap zs w hH (by unfold maxLen at r2; omega) r1).mono ?_
    rintro e w' ⟨rfl, q, rfl⟩
    exact ⟨_, _, rfl, hB.grown (grownBy_putRowI _) hB.size (fun k e => by cases e; exact hbase)⟩

set_option maxHeartbeats 2000000 in
theorem walk_unlike.calls (A0 : Option Addr) (c0 : Nat) (l0 : List Int) (r : Bool) (w : World) (hr0 : Kd.C (Kd.int .i64) w A0 l0.length l0) (hc0 : l0.length ≤ c0) (h : walk_unlike.f l0 = some r) :
    Calls Try.prog 33 #[.slice A0 l0.length c0] w fun e w' => e = .returned (.bool r) ∧ Below w.heap.size w w' := by
  unfold walk_unlike.f at h
  split at h
  · next hlim =>
    obtain rfl := Option.some.inj h
    have hmax := hr0.2.1
    have hI : Hid (Ints w.heap.size (w.alloc (.cells #[.slice A0 l0.length c0] 25)) (.slice A0 l0.length c0) l0) := Lib.hid (by
      by_cases hn : 0 < l0.length
      · obtain ⟨b, off, rfl, hc⟩ := C_plain hr0 hn
        refine .inr ⟨b, off, c0, rfl, ?_, fun j hj => ?_⟩
        · exact World.block_lt_of_cell? _ _ (hc 0 hn)
        · have := hc j hj
          rw [List.getD_eq_getElem?_getD] at this
          exact (((Below.refl w.heap.size w).alloc (Nat.le_refl _) _).cell (p := ⟨b, off + j, none⟩) (World.block_lt_of_cell? _ _ this)).trans this
      · have hl : l0 = [] := List.eq_nil_of_length_eq_zero (by omega)
        subst hl
        exact .inl ⟨_, _, rfl, rfl⟩)
    have hseq : Hid (SeqStopsK Fence.wide 4 Try.prog 69 #[.pointer (some ⟨w.heap.size, 0, none⟩)] (fun x : Int => #[Value.int .i64 x]) (Below w.heap.size) (fun ys => ys = l0) (fun pre => pre <+: l0) l0.length (w.alloc (.cells #[.slice A0 l0.length c0] 25))) :=
      Lib.hid (values_stops Fence.wide 4 trivial rfl (by omega) w.heap.size w.heap.size _ l0 hmax _ (by simp) (by simp) ((blk_cell (World.alloc_heap_new w _) 0).trans rfl) hI.out)
    have heg : Hid (∀ args w, (callFunc 69 args).run Try.prog w = .ok (.enter 69 args) w) := Lib.hid (enters_of Try.func69 (by kernel_rfl) rfl)
    have hfin : Hid (decide l0.Nodup = (((Lib.compact (sortI l0)).length : Int) == (l0.length : Int))) := Lib.hid (by
      rw [Bool.eq_iff_iff, decide_eq_true_iff, beq_iff_eq, ← compact_nodup]; omega)
    clear hr0 h
    go_enter Try.func33, Try.ntmps33
    go_wp2_with (first
      | (go_at_call 53; refine (callsIn_wide.1 (values_in Fence.wide 5 trivial rfl _ _ _ _)).mono ?_; rintro e w1 ⟨rfl, rfl⟩)
      | (go_at_call 52; refine (sorted_vals _ _ heg.out w.heap.size l0 hlim _ (by simp) hseq.out).mono ?_; rintro e w1 ⟨v, rfl, hr, hb⟩)
      | (go_at_call 54; refine (compact_own v _ _ w1 hb hr).mono ?_; rintro e w2 ⟨A, c, rfl, hb2⟩))
    go_ret
    refine ⟨?_, ((Below.refl _ w).alloc (Nat.le_refl _) _).trans (hb2.mono (by simp))⟩
    rw [hfin.out]
    rfl
  · cases h

end Go.Proofs.Ytngglgkemonibaa.P
