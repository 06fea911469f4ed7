/- slices.Values, AppendSeq, Collect, Sorted over it, at []int; then walk.unlike. -/
import Derived.Test.YtngglgkemonibaaLib
import Derived.Test.YtngglgkemonibaaNear
namespace Go.Proofs.Ytngglgkemonibaa.P
open Go.RowKit Go.Sort Go.Shelf Go.Proofs.YtngglgkemonibaaW.PrintWords
set_option linter.unusedVariables false
set_option linter.unusedSimpArgs false

attribute [local go_sem] Oper.semAt_some

/-- THE SLICE VALUE sv HOLDS THE ints zs, in a block below n₀; or there are none. -/
def Ints (n₀ : Nat) (W : World) (sv : Value) (zs : List Int) : Prop :=
  (∃ A c, sv = .slice A 0 c ∧ zs = []) ∨ ∃ b off cap, sv = .slice (some ⟨b, off, none⟩) zs.length cap ∧ b < n₀ ∧ ∀ j, j < zs.length → W.cell? ⟨b, off + j, none⟩ = some (.int .i64 (zs[j]?.getD 0))
theorem Ints.below {n₀ : Nat} {A B : World} (h : Below n₀ A B) {sv : Value} {zs : List Int} : Ints n₀ A sv zs → Ints n₀ B sv zs
  | .inl e => .inl e
  | .inr ⟨b, off, cap, e, hb, hc⟩ => .inr ⟨b, off, cap, e, hb, fun j hj => (h.cell (p := ⟨b, off + j, none⟩) hb).trans (hc j hj)⟩

set_option maxRecDepth 100000 in
set_option maxHeartbeats 2000000 in
theorem values1_in (F : Fence) (n : Nat) (h7 : F.fn 69) (hro : F.round = none) (hn : 1 ≤ n) (l Bs n₀ b off cap : Nat) (zs : List Int) (hlen : zs.length ≤ 9223372036854775807) (hb : b < n₀) (J Jx : List Int → World → Prop)
    (hY : ∀ pre x W, J pre W → pre.length < zs.length → YieldAt F (n - 1) Try.prog l #[.int .i64 x] W fun e W' =>
      (e = .returned (.bool true) ∧ J (pre ++ [x]) W' ∧ Below n₀ W W') ∨ (e = .returned (.bool false) ∧ Jx (pre ++ [x]) W'))
    (W : World) (hBs : W.cell? ⟨Bs, 0, none⟩ = some (.slice (some ⟨b, off, none⟩) zs.length cap)) (hc : ∀ j, j < zs.length → W.cell? ⟨b, off + j, none⟩ = some (.int .i64 (zs[j]?.getD 0))) (h0 : J [] W) :
    CallsIn F n Try.prog 69 #[.func (.yield l) #[] #[], .pointer (some ⟨Bs, 0, none⟩)] W fun e W' => (∃ v, e = .returned v) ∧
      ((∃ ys, ys = zs ∧ J ys W') ∨ (∃ pre, pre <+: zs ∧ Jx pre W')) := by
  refine callsIn_of_wp Try.func69 rfl h7 ?_ hro
  simp only [Try.ntmps69, List.size_toArray, List.length_cons, List.length_nil, Nat.reduceAdd, Nat.reduceSub, Array.replicate_succ, Array.replicate_zero, List.push_toArray, List.append_toArray, List.nil_append, List.cons_append]
  gi_wp2
  gi_loopw [7] (fun i wr => ∃ k : Nat, k ≤ zs.length ∧ i = .int .i64 k ∧ J (zs.take k) wr ∧ Below n₀ W wr)
    (fun i _ => zs.length - (intOf i).toNat)
  case atStart => exact ⟨0, Nat.zero_le _, rfl, h0, Below.refl _ _⟩
  case round =>
    obtain ⟨k, hk, rfl, hJs, hnx⟩ := hrel
    by_cases hlt : k < zs.length
    · have hcx' : wr.cell? ⟨b, off + k, none⟩ = some (.int .i64 (zs[k]?.getD 0)) := (hnx.cell (p := ⟨b, off + k, none⟩) hb).trans (hc k hlt)
      have HT : Hid (zs.take (k + 1) = zs.take k ++ [zs[k]?.getD 0]) := Lib.hid (by rw [List.take_succ_eq_append_getElem hlt, List.getElem?_eq_getElem hlt]; rfl)
      generalize zs[k]?.getD 0 = z at hcx' HT
      obtain ⟨fn, tmps, assign, body, hy, hR⟩ := hY _ z wr hJs (by rw [List.length_take]; omega)
      gi_wp2
      refine hR.mono ?_
      rintro e W3 (⟨rfl, hJ3, hk3⟩ | ⟨rfl, hJx3⟩)
      · gi_wp2
        go_roundw
        case rel => exact ⟨k + 1, by omega, by simp, by rw [HT.out]; exact hJ3, hnx.trans hk3⟩
        case measure => simp [intOf]; omega
      · gi_wp2
        refine bodyPost_ret (results_none rfl _ _ _) rfl ?_
        exact ⟨⟨_, rfl⟩, .inr ⟨_, by rw [← HT.out]; exact List.take_prefix _ _, hJx3⟩⟩
    · obtain rfl : k = zs.length := by omega
      gi_wp2
      go_end0
      exact ⟨⟨_, rfl⟩, .inl ⟨_, rfl, by rw [List.take_length] at hJs; exact hJs⟩⟩

set_option maxRecDepth 100000 in
set_option maxHeartbeats 1000000 in
theorem values1_nil_in (F : Fence) (n : Nat) (h7 : F.fn 69) (hro : F.round = none) (l Bs : Nat) (A : Option Addr) (c : Nat) (J : List Int → World → Prop) (W : World) (hBs : W.cell? ⟨Bs, 0, none⟩ = some (.slice A 0 c)) (h0 : J [] W) :
    CallsIn F n Try.prog 69 #[.func (.yield l) #[] #[], .pointer (some ⟨Bs, 0, none⟩)] W fun e W' => (∃ v, e = .returned v) ∧ J [] W' := by
  refine callsIn_of_wp Try.func69 rfl h7 ?_ hro
  simp only [Try.ntmps69, List.size_toArray, List.length_cons, List.length_nil, Nat.reduceAdd, Nat.reduceSub, Array.replicate_succ, Array.replicate_zero, List.push_toArray, List.append_toArray, List.nil_append, List.cons_append]
  gi_wp2
  gi_loopw [7] (fun i wr => i = .int .i64 0 ∧ J [] wr) (fun _ _ => 0)
  case atStart => exact ⟨rfl, h0⟩
  case round =>
    obtain ⟨rfl, hJs⟩ := hrel
    gi_wp2
    go_end0
    exact ⟨⟨_, rfl⟩, hJs⟩

set_option maxHeartbeats 1000000 in
theorem values_in (F : Fence) (n : Nat) (h5 : F.fn 53) (hro : F.round = none) (a : Option Addr) (len cap : Nat) (w : World) :
    CallsIn F n Try.prog 53 #[.slice a len cap] w fun e w' => e = .returned (.func (.func 69) #[] #[.pointer (some ⟨w.heap.size, 0, none⟩)]) ∧ w' = w.alloc (.cells #[.slice a len cap] 25) := by
  refine callsIn_of_wp Try.func53 rfl h5 ?_ hro
  simp only [Try.ntmps53, List.size_toArray, List.length_cons, List.length_nil, Nat.reduceAdd, Nat.reduceSub, Array.replicate_succ, Array.replicate_zero, List.push_toArray, List.append_toArray, List.nil_append, List.cons_append]
  gi_wp2
  go_ret
  exact ⟨rfl, rfl⟩

theorem values_stops (F : Fence) (n : Nat) (h7 : F.fn 69) (hro : F.round = none) (hn : 1 ≤ n) (Bs n₀ : Nat) (sv : Value) (zs : List Int) (hlen : zs.length ≤ 9223372036854775807) (w : World) (hBs : Bs < w.heap.size) (hn₀ : n₀ ≤ w.heap.size)
    (hc : w.cell? ⟨Bs, 0, none⟩ = some sv) (hI : Ints n₀ w sv zs) :
    SeqStopsK F n Try.prog 69 #[.pointer (some ⟨Bs, 0, none⟩)] (fun x : Int => #[Value.int .i64 x]) (Below n₀) (fun ys => ys = zs) (fun pre => pre <+: zs) zs.length w := fun l J Jx W hW _ _ hY h0 => by
  have hc' := (hW.cell (p := ⟨Bs, 0, none⟩) hBs).trans hc
  rcases hI.below (hW.mono hn₀) with ⟨A, c, rfl, rfl⟩ | ⟨b, off, cap, rfl, hb, hcs⟩
  · exact (values1_nil_in F n h7 hro l Bs A c J W hc' h0).mono fun e W' ⟨he, hj⟩ => ⟨he, .inl ⟨_, rfl, hj⟩⟩
  · exact values1_in F n h7 hro hn l Bs n₀ b off cap zs hlen hb J Jx hY W hc' hcs h0

set_option maxRecDepth 100000 in
set_option maxHeartbeats 4000000 in
theorem appendSeq_vals (g : Nat) (lb : Array Value) (eg : ∀ args w, (callFunc g args).run Try.prog w = .ok (.enter g args) w) (n₀ : Nat) (zs : List Int) (hlim : zs.length < 17592186044416) (w : World) (hn₀ : n₀ ≤ w.heap.size)
    (hseq : SeqStopsK Fence.wide 4 Try.prog g lb (fun x : Int => #[Value.int .i64 x]) (Below n₀) (fun ys => ys = zs) (fun pre => pre <+: zs) zs.length w) :
    CallsIn Fence.wide 5 Try.prog 82 #[.slice none 0 0, .func (.func g) #[] lb] w fun e W' => ∃ v : Value, e = .returned v ∧ W'.ownsRow w.heap.size 3 1 v zs.length (zs.map (Value.int .i64)) ∧ Below w.heap.size w W' := by
  refine callsIn_of_wp_marks Try.func82 rfl trivial ?_ rfl
  simp only [Try.ntmps82, List.size_toArray, List.length_cons, List.length_nil, Nat.reduceAdd, Nat.reduceSub, Array.replicate_succ, Array.replicate_zero, List.push_toArray, List.append_toArray, List.nil_append, List.cons_append]
  gi_wp2
  have hX2 : (w.alloc (.cells #[.slice none 0 0] 25)).heap[w.heap.size]? = some (.cells #[.slice none 0 0] 25 (0, 0)) := World.alloc_heap_new w _
  obtain ⟨w2, hw2⟩ : ∃ w2, w.alloc (.cells #[.slice none 0 0] 25) = w2 := ⟨_, rfl⟩
  have hbw2 : Below w.heap.size w w2 := hw2 ▸ (Below.refl _ w).alloc (Nat.le_refl _) _
  have hs2 : w2.heap.size = w.heap.size + 1 := hw2 ▸ World.size_alloc ..
  rw [hw2] at hX2 ⊢
  clear hw2
  obtain ⟨i0, hi, hz0, hz1, hz2⟩ := info_parts info3
  refine wpIn_rangeFunc_ownG rfl (by omega) (gf := g) (lb := lb) rfl trivial eg hseq Below.trans (belowK_b (Nat.le_trans hn₀ hbw2.size)) hbw2 (fun _ => rfl)
    (fun pre W => ∃ v, W.heap[w.heap.size]? = some (.cells #[v] 25 (0, 0)) ∧ W.ownsRow w2.heap.size 3 1 v pre.length (pre.map (Value.int .i64)) ∧ Below w.heap.size w W ∧ w2.heap.size ≤ W.heap.size)
    (fun _ _ _ => False)
    (fun s W W' row hs hg hr => by
      obtain ⟨v, h1, h2, h3, h4⟩ := hs
      refine ⟨v, own_blk h1 hg hr, h2.kept hg ?_, own_below_ hbw2.size h3 hg hr, Nat.le_trans h4 hg.size⟩
      rcases h2.2 with ⟨rfl, _⟩ | ⟨g, cp, cur, rfl, _, hgb, _⟩
      · exact .inl rfl
      · refine .inr fun e' => ?_
        obtain ⟨_, o, ho, hoc⟩ := hr g e'.symm
        rw [hgb] at ho; cases ho; simp [Obj.isCells] at hoc)
    (fun c s W W' row hs hg hr => hs)
    ⟨_, hX2, by simpa using World.ownsRow_nil .., hbw2, Nat.le_refl _⟩
    (fun x => { tmps := #[.slice none 0 0, .func (.func g) #[] lb, .pointer (some ⟨w.heap.size, 0, none⟩), undef, .slice none 0 0, .int .i64 x, .func (.func g) #[] lb, .int .i64 x, undef, undef, undef, undef, undef], defers := [] }) ?assign ?body ?done ?stop
  case assign =>
    intro l x W K hK
    gi_wp2
    exact hK
  case body =>
    rintro lp pre x W ⟨v, hX, hrow, hW, hsz⟩ hlen
    have hvc : W.cell? ⟨w.heap.size, 0, none⟩ = some v := (blk_cell hX 0).trans rfl
    have hr5 := hrow.alloc (.cells #[.int .i64 x] 3)
    have hr6 := cell_one_new W (.int .i64 x) 3
    have hone : ∀ u ∈ [Value.int .i64 x], u.oneCell' = true := by intro u hu; rw [List.mem_singleton.1 hu]; rfl
    have hXa : (W.alloc (.cells #[.int .i64 x] 3)).heap[w.heap.size]? = some (.cells #[v] 25 (0, 0)) := (Below.heap_alloc _ _ _ (blk_lt hX)).trans hX
    have hne2 : some w.heap.size ≠ v.ownBlock := own_ne hrow hX (by decide)
    have hm1 : pre.length + 1 ≤ maxLen := by unfold maxLen; omega
    have hm2 : (pre.length + 1) * 8 ≤ 140737488355328 := by omega
    have hm3 : w2.heap.size ≤ (W.alloc (.cells #[.int .i64 x] 3)).heap.size := by rw [World.size_alloc]; omega
    gi_wp2_with (gi_at_builtin; go_loud (refine wpListIn_append_own _ rfl _ _ 25 rfl w2.heap.size 3 i0 (.int .i64 0) 1 8 Try.underlying25 hi hz0 hz1 hz2 rfl (by decide) _ _ _ rfl hr5 ⟨W.heap.size, 0, none⟩ 1 1 [.int .i64 x] rfl rfl hr6 hone hm1 hm2 hm3 ?_); go_loud (intro v' w3 hown' hgrow _); go_loud (obtain ⟨g', cap', rfl⟩ := ownsRow_succ hown'); go_loud (have hB3 := blk_grown hXa hgrow hne2); go_loud (have hc3 := (blk_cell hB3 0).trans rfl); go_loud (have hf3 := blk_frozen hB3 0))
    have hk3 : Below w.heap.size W w3 := by
      refine (((Below.refl _ W).alloc (Nat.le_trans hbw2.size hsz) _).grown hgrow (by rw [World.size_alloc]; have := hbw2.size; omega) (fun k e => ?_))
      have := own_base hrow k e; have := hbw2.size; omega
    have hk4 := hk3.setCell (p := ⟨w.heap.size, 0, none⟩) (Nat.le_refl _) (.slice (some ⟨g', 0, none⟩) (pre.length + 1) cap')
    refine ⟨?_, hk4.mono hn₀, ⟨_, blk_set hB3 0 _, ?_, hW.trans hk4, ?_⟩⟩
    · refine ((KeepsOthers.alloc W (.cells #[.int .i64 x] 3)).trans ((KeepsOthers.of_grownBy hgrow fun j o ej hj => ?_).trans (KeepsOthers.setCell _ _ _))).from _
      obtain ⟨cells, hcs⟩ := own_typed hr5 j ej
      rw [hcs] at hj; cases hj; rfl
    · rw [List.length_append, List.map_append]
      exact own_setCell hown' (own_ne hown' hB3 (by decide)) _
    · show w2.heap.size ≤ (w3.setCell _ _).heap.size
      have := hgrow.size
      rw [World.size_alloc] at this
      simp only [World.size_setCell]; omega
  case done =>
    rintro D ys W hD rfl ⟨v, hX, hrow, hW, hsz⟩ hK
    have hvc : W.cell? ⟨w.heap.size, 0, none⟩ = some v := (blk_cell hX 0).trans rfl
    gi_wp2
    refine ⟨by simp, .inl ⟨_, _, rfl, run_takeDeferred hK, ?_⟩⟩
    have hbk : Below w.heap.size W (W.putObj D (.deferred none)) := belowK_b (w := w) (Nat.le_refl _) W D _ _ (Nat.le_trans hbw2.size hD) hK rfl rfl
    exact ⟨_, results_tmp rfl _ _ _, _, rfl, own_weaken (ownsRow_putObj hrow _ hK rfl) hbw2.size, hW.trans hbk⟩
  case stop =>
    rintro D c pre W hD hpre h hK
    exact h.elim

set_option maxHeartbeats 1000000 in
theorem collect_vals (g : Nat) (lb : Array Value) (eg : ∀ args w, (callFunc g args).run Try.prog w = .ok (.enter g args) w) (n₀ : Nat) (zs : List Int) (hlim : zs.length < 17592186044416) (w : World) (hn₀ : n₀ ≤ w.heap.size)
    (hseq : SeqStopsK Fence.wide 4 Try.prog g lb (fun x : Int => #[Value.int .i64 x]) (Below n₀) (fun ys => ys = zs) (fun pre => pre <+: zs) zs.length w) :
    Calls Try.prog 68 #[.func (.func g) #[] lb] w fun e W' => ∃ v : Value, e = .returned v ∧ W'.ownsRow w.heap.size 3 1 v zs.length (zs.map (Value.int .i64)) ∧ Below w.heap.size w W' := by
  have HS := Lib.hid hseq
  have HE := Lib.hid eg
  clear hseq eg
  go_enter Try.func68, Try.ntmps68
  go_wp2_with (go_at_call 82; refine (callsIn_wide.1 (appendSeq_vals g lb HE.out n₀ zs hlim _ hn₀ HS.out)).mono ?_; rintro e w1 ⟨v, rfl, hr, hb⟩)
  go_ret
  exact ⟨v, rfl, hr, hb⟩

theorem sorted_ofR {w : World} {base : Nat} {v : Value} {zs : List Int} (h : w.ownsRow base 3 1 v zs.length (zs.map (Value.int .i64))) : Kd.R (Kd.int .i64) 3 w base (fun _ => True) v zs := Kd.R_of_own h (fun _ _ => trivial)

set_option maxHeartbeats 1000000 in
theorem sorted_vals (g : Nat) (lb : Array Value) (eg : ∀ args w, (callFunc g args).run Try.prog w = .ok (.enter g args) w) (n₀ : Nat) (zs : List Int) (hlim : zs.length < 17592186044416) (w : World) (hn₀ : n₀ ≤ w.heap.size)
    (hseq : SeqStopsK Fence.wide 4 Try.prog g lb (fun x : Int => #[Value.int .i64 x]) (Below n₀) (fun ys => ys = zs) (fun pre => pre <+: zs) zs.length w) :
    Calls Try.prog 52 #[.func (.func g) #[] lb] w fun e W' => ∃ v : Value, e = .returned v ∧ Kd.R (Kd.int .i64) 3 W' w.heap.size (fun _ => True) v (sortI zs) ∧ Below w.heap.size w W' := by
  have HS := Lib.hid hseq
  have HE := Lib.hid eg
  clear hseq eg
  have hf : Hid (slices_Sort_int_int.f zs = some (sortI zs)) := Lib.hid (by unfold slices_Sort_int_int.f; rw [if_pos hlim])
  go_enter Try.func52, Try.ntmps52
  go_wp2_with (first
    | (go_at_call 68; refine (collect_vals g lb HE.out n₀ zs hlim _ hn₀ HS.out).mono ?_; rintro e w1 ⟨v, rfl, hr, hb⟩)
    | (go_at_call 44; refine (slices_Sort_int_int.calls _ _ zs _ w w1 hb (sorted_ofR hr) hf.out).mono ?_; rintro e w2 ⟨rfl, hr2, hb2, _⟩))
  go_ret
  exact ⟨v, rfl, Kd.R_mono hr2 (fun _ _ => trivial), hb2⟩

end Go.Proofs.Ytngglgkemonibaa.P
