/- walk.Turn: a ring from its least number on. -/
import Derived.Test.YtngglgkemonibaaConcat
namespace Go.Proofs.Ytngglgkemonibaa.P
open Go.RowKit Go.Sort Go.Proofs.YtngglgkemonibaaW.PrintWords
set_option linter.unusedVariables false
set_option linter.unusedSimpArgs false

/-- where x stands first -/
def fidx (x : Int) : List Int → Nat
  | [] => 0
  | z :: zs => if z = x then 0 else fidx x zs + 1
theorem fidx_lt {x : Int} : ∀ {zs : List Int}, x ∈ zs → fidx x zs < zs.length
  | z :: zs, h => by
    unfold fidx
    split
    · simp
    · next hne =>
      have := fidx_lt (zs := zs) ((List.mem_cons.1 h).resolve_left (fun e => hne e.symm))
      simp only [List.length_cons]; omega
theorem fidx_get {x : Int} : ∀ {zs : List Int}, x ∈ zs → zs.getD (fidx x zs) 0 = x
  | z :: zs, h => by
    unfold fidx
    split
    · next he => simpa using he
    · next hne =>
      have := fidx_get (zs := zs) ((List.mem_cons.1 h).resolve_left (fun e => hne e.symm))
      simpa using this
theorem idxFrom_fidx {x : Int} : ∀ {zs : List Int} (i : Nat), x ∈ zs → Lib.idxFrom zs x i = ((i + fidx x zs : Nat) : Int)
  | z :: zs, i, h => by
    unfold Lib.idxFrom fidx
    split
    · simp
    · next hne =>
      rw [idxFrom_fidx (i + 1) ((List.mem_cons.1 h).resolve_left (fun e => hne e.symm))]
      congr 1; omega
theorem foldl_min_mem : ∀ (l : List Int) (a : Int), l.foldl min a = a ∨ l.foldl min a ∈ l
  | [], a => .inl rfl
  | x :: l, a => by
    rw [List.foldl_cons]
    rcases foldl_min_mem l (min a x) with h | h
    · rw [h]
      rcases Int.le_total a x with hx | hx
      · left; omega
      · right; simp; omega
    · exact .inr (List.mem_cons_of_mem _ h)
theorem foldl_min_le : ∀ (l : List Int) (a : Int), l.foldl min a ≤ a ∧ ∀ y ∈ l, l.foldl min a ≤ y
  | [], a => ⟨Int.le_refl _, by simp⟩
  | x :: l, a => by
    rw [List.foldl_cons]
    have h := foldl_min_le l (min a x)
    refine ⟨by omega, fun y hy => ?_⟩
    rcases List.mem_cons.1 hy with rfl | hy
    · have := h.1; omega
    · exact h.2 y hy
theorem minOf_mem {l : List Int} (h : 0 < l.length) : Lib.minOf l ∈ l := by
  cases l with
  | nil => simp at h
  | cons x l =>
    rcases foldl_min_mem (x :: l) x with h1 | h1
    · unfold Lib.minOf; rw [List.headD_cons, h1]; exact List.mem_cons_self
    · exact h1
theorem minOf_le {l : List Int} {y : Int} (h : y ∈ l) : Lib.minOf l ≤ y := (foldl_min_le l _).2 y h

/-- the ring from its least number on -/
def ringOf (c : List Int) : List Int := c.drop (fidx (Lib.minOf c) c) ++ c.take (fidx (Lib.minOf c) c)
def turnRow (c : List Int) : List Int :=
  if (ringOf c).getD 1 0 > (ringOf c).getD ((ringOf c).length - 1) 0 then (ringOf c).take 1 ++ ((ringOf c).drop 1).reverse else ringOf c
theorem ringOf_length (c : List Int) : (ringOf c).length = c.length := by unfold ringOf; rw [List.length_append, List.length_drop, List.length_take]; omega
def walk_Turn.f (l0 : List Int) : Option (List Int) := if l0.length < 17592186044416 then some (if l0.length < 3 ∨ ¬ l0.Nodup then l0 else turnRow l0) else none

theorem nat_bool {a b : Nat} : decide ((a : Int) < (b : Int)) = decide (a < b) := by simp

set_option maxRecDepth 100000 in
set_option maxHeartbeats 4000000 in
theorem turn_plain (A0 : Option Addr) (c0 : Nat) (l0 : List Int) (w : World) (hr0 : Kd.C (Kd.int .i64) w A0 l0.length l0) (hc0 : l0.length ≤ c0) (hlim : l0.length < 17592186044416) (h : l0.length < 3 ∨ ¬ l0.Nodup) :
    Calls Try.prog 22 #[.slice A0 l0.length c0] w fun e w' => ∃ v0_ : Value, e = .returned (v0_) ∧ Kd.R (Kd.int .i64) 3 w' w.heap.size (fun _ => True) v0_ l0 ∧ Below w.heap.size w w' := by
  have HC : Hid (slices_Clone_int_int.f l0 = some l0) := Lib.hid (by unfold slices_Clone_int_int.f; rw [if_pos hlim])
  have HR := Lib.hid hr0
  have hmax := hr0.2.1
  clear hr0
  by_cases h3 : l0.length < 3
  · have t1 : decide ((l0.length : Int) < 3) = true := decide_eq_true (by omega)
    have t2 : decide (l0.length < 3) = true := decide_eq_true h3
    have t3 : (l0.length : Int) < 3 := by omega
    go_enter Try.func22, Try.ntmps22
    go_wp2_with (go_at_call 40; refine (slices_Clone_int_int.calls _ _ l0 l0 _ HR.out hc0 HC.out).mono ?_; rintro e w' ⟨v, rfl, hv, hb⟩)
    go_ret
    exact ⟨_, rfl, hv, hb⟩
  · have hnd : ¬ l0.Nodup := h.resolve_left h3
    have HU : Hid (walk_unlike.f l0 = some false) := Lib.hid (by unfold walk_unlike.f; rw [if_pos hlim, decide_eq_false hnd])
    have t1 : decide ((l0.length : Int) < 3) = false := decide_eq_false (by omega)
    have t2 : decide (l0.length < 3) = false := decide_eq_false h3
    have t3 : ¬ (l0.length : Int) < 3 := by omega
    clear hnd h
    go_enter Try.func22, Try.ntmps22
    go_wp2_with (first
      | (go_at_call 33; refine (walk_unlike.calls _ _ l0 false _ HR.out hc0 HU.out).mono ?_; rintro e w1 ⟨rfl, hb1⟩)
      | (go_at_call 40; refine (slices_Clone_int_int.calls _ _ l0 l0 w1 (Kd.C_below HR.out hb1) hc0 HC.out).mono ?_; rintro e w' ⟨v, rfl, hv, hb⟩))
    go_ret
    exact ⟨_, rfl, Kd.R_lower hv hb1.size, hb1.trans (hb.mono hb1.size)⟩

/-- two rows in a literal, read -/
theorem C_two {w : World} {g : Nat} {A1 A2 : Option Addr} {c1 c2 : Nat} {l1 l2 : List Int} (hb : w.heap[g]? = some (.cells #[.slice A1 l1.length c1, .slice A2 l2.length c2] 25 (0, 0)))
    (h1 : Kd.C (Kd.int .i64) w A1 l1.length l1) (h2 : Kd.C (Kd.int .i64) w A2 l2.length l2) (k1 : l1.length ≤ c1) (k2 : l2.length ≤ c2) :
    Kd.C (Kd.slice 3 (Kd.int .i64)) w (some ⟨g, 0, none⟩) ([l1, l2] : List (List Int)).length [l1, l2] := by
  refine ⟨rfl, by simp, fun _ => ⟨_, rfl, fun j p hj => ?_⟩⟩
  match j, hj with
  | 0, hj =>
    obtain rfl : l1 = p := by simpa using hj
    refine ⟨[.slice A1 l1.length c1], rfl, ⟨A1, c1, rfl, k1, h1⟩, fun i u hu => ?_⟩
    obtain rfl : i = 0 := by have := (List.getElem?_eq_some_iff.1 hu).1; simp at this; omega
    rw [add_at, ← hu]; exact blk_cell hb 0
  | 1, hj =>
    obtain rfl : l2 = p := by simpa using hj
    refine ⟨[.slice A2 l2.length c2], rfl, ⟨A2, c2, rfl, k2, h2⟩, fun i u hu => ?_⟩
    obtain rfl : i = 0 := by have := (List.getElem?_eq_some_iff.1 hu).1; simp at this; omega
    rw [add_at, ← hu]; exact blk_cell hb 1

theorem bel_setCells {B b : Nat} {a : World} (hb : B ≤ b) : ∀ (vs : List Value) (o : Nat) (w : World), Below B a w → Below B a (w.setCells b o vs)
  | [], _, _, h => h
  | v :: r, o, w, h => bel_setCells hb r (o + 1) _ (h.setCell (by exact hb) v)
theorem Blk.rev {W : World} {base g cap : Nat} {cur : Array Value} {xs : List Int} (h : Blk W base g cap cur xs) (h1 : 1 ≤ xs.length) (q : Nat) :
    Kd.R (Kd.int .i64) 3 ((W.drewN q).setCells g 1 (((xs.drop 1).take (xs.length - 1)).reverse.map (Value.int .i64))) base (fun _ => True) (.slice (some ⟨g, 0, none⟩) xs.length cap) (xs.take 1 ++ (xs.drop 1).reverse) := by
  have e1 : (xs.drop 1).take (xs.length - 1) = xs.drop 1 := List.take_of_length_le (by rw [List.length_drop]; exact Nat.le_refl _)
  rw [e1]
  have hlen : (xs.take 1 ++ (xs.drop 1).reverse).length = xs.length := by rw [List.length_append, List.length_take, List.length_reverse, List.length_drop]; omega
  have hl2 : ((xs.drop 1).reverse.map (Value.int .i64)).length = xs.length - 1 := by rw [List.length_map, List.length_reverse, List.length_drop]
  have hb : (W.drewN q).heap[g]? = some (.cells cur 3 (0, 0)) := h.blk
  have hsz := h.siz
  have hle := h.len
  obtain ⟨cur', k1, k2, k3⟩ := setCells_row ((xs.drop 1).reverse.map (Value.int .i64)) 1 (W.drewN q) cur hb (by rw [hl2]; omega)
  have hB : Blk ((W.drewN q).setCells g 1 ((xs.drop 1).reverse.map (Value.int .i64))) base g cap cur' (xs.take 1 ++ (xs.drop 1).reverse) := by
    refine ⟨h.bas, k1, by rw [hlen]; exact hle, h.cle, by rw [k2]; exact hsz, ?_⟩
    rw [k3, hlen, hl2]
    have hc1 : cur.toList.take 1 = (xs.take 1).map (Value.int .i64) := by
      have := congrArg (List.take 1) h.cells
      rw [List.take_take, Nat.min_eq_left h1, ← List.map_take] at this
      exact this
    have hA : (cur.toList.take 1 ++ (xs.drop 1).reverse.map (Value.int .i64)).length = xs.length := by
      rw [hc1, ← List.map_append, List.length_map, hlen]
    rw [← hA, List.take_left', hc1, ← List.map_append]
    rfl
  have := hB.own
  rw [hlen] at this
  exact Kd.R_of_own (by rw [hlen]; exact this) (fun _ _ => trivial)

set_option maxRecDepth 100000 in
set_option maxHeartbeats 8000000 in
theorem turn_ring (b off : Nat) (c0 : Nat) (l0 : List Int) (w : World) (hr0 : Kd.C (Kd.int .i64) w (some ⟨b, off, none⟩) l0.length l0) (hc0 : l0.length ≤ c0) (hlim : l0.length < 17592186044416) (h3 : 3 ≤ l0.length) (hnd : l0.Nodup) :
    Calls Try.prog 22 #[.slice (some ⟨b, off, none⟩) l0.length c0] w fun e w' => ∃ v0_ : Value, e = .returned (v0_) ∧ Kd.R (Kd.int .i64) 3 w' w.heap.size (fun _ => True) v0_ (turnRow l0) ∧ Below w.heap.size w w' := by
  have HR := Lib.hid hr0
  have hmax := hr0.2.1
  have hcw : Hid (∀ j, j < l0.length → w.cell? ⟨b, off + j, none⟩ = some (.int .i64 (l0.getD j 0))) := Lib.hid (by
    obtain ⟨b', off', he, hc⟩ := C_plain hr0 (by omega)
    cases he; exact hc)
  have hbw : b < w.heap.size := C_lt hr0 (by decide) _ rfl (by omega)
  clear hr0
  have HU : Hid (walk_unlike.f l0 = some true) := Lib.hid (by unfold walk_unlike.f; rw [if_pos hlim, decide_eq_true hnd])
  have HM : Hid (slices_Min_int_int.f l0 = some (Lib.minOf l0)) := Lib.hid (by unfold slices_Min_int_int.f; rw [if_pos (by omega)])
  have t1 : decide ((l0.length : Int) < 3) = false := decide_eq_false (by omega)
  have t2 : decide (l0.length < 3) = false := decide_eq_false (by omega)
  have t3 : ¬ (l0.length : Int) < 3 := by omega
  have hmem := minOf_mem (l := l0) (by omega)
  have hil : fidx (Lib.minOf l0) l0 < l0.length := fidx_lt hmem
  have HI : Hid (Lib.idxOf (l0.take l0.length) (Lib.minOf l0) = ((fidx (Lib.minOf l0) l0 : Nat) : Int)) := Lib.hid (by
    rw [List.take_length]; have := idxFrom_fidx (zs := l0) 0 hmem; rw [Nat.zero_add] at this; exact this)
  have HF : Hid (ringOf l0 = l0.drop (fidx (Lib.minOf l0) l0) ++ l0.take (fidx (Lib.minOf l0) l0)) := Lib.hid rfl
  clear hmem hnd
  generalize fidx (Lib.minOf l0) l0 = i at hil HI HF
  generalize Lib.minOf l0 = m at HM HI
  go_enter Try.func22, Try.ntmps22
  go_wp2_with (first
    | (go_at_call 33; refine (walk_unlike.calls _ _ l0 true _ HR.out hc0 HU.out).mono ?_; rintro e w1 ⟨rfl, hb1⟩)
    | (go_at_call 36; refine (slices_Min_int_int.calls _ _ l0 m w1 (Kd.C_below HR.out hb1) hc0 HM.out).mono ?_; rintro e w2 ⟨rfl, ⟨q, rfl⟩⟩)
    | (go_at_call 41; refine (Try.slices_Index_int b off l0.length c0 l0 m (w1.drewN q) (Nat.le_refl _) hmax (fun j hj => (hb1.cell (p := ⟨b, off + j, none⟩) hbw).trans (hcw.out j hj))).mono ?_; rintro e w2 ⟨rfl, rfl⟩; rw [HI.out]))
  obtain ⟨W, hW⟩ : ∃ W, w1.drewN q = W := ⟨_, rfl⟩
  have hbW : Below w.heap.size w W := hW ▸ pw_below_drewN hb1 q
  rw [hW]
  clear hb1 hW
  have b1 : (0 : Int) ≤ (i : Int) := by omega
  have b2 : (i : Int) ≤ (l0.length : Int) := by omega
  have b3 : i ≤ l0.length := by omega
  have b4 : ¬ c0 = i := by omega
  have b5 : i ≤ c0 := by omega
  have b6 : (i : Int) ≤ (c0 : Int) := by omega
  have hC := Kd.C_below HR.out hbW
  obtain ⟨W1, hW1⟩ : ∃ W1, W.drew = W1 := ⟨_, rfl⟩
  have hbW1 : Below w.heap.size w W1 := hW1 ▸ below_drew hbW
  have hlen : Hid ((l0.drop i).length = l0.length - i) := Lib.hid List.length_drop
  have hlen2 : Hid ((l0.take i).length = i) := Lib.hid (by rw [List.length_take]; omega)
  have HCR : Hid (slices_Concat_int_int.f [l0.drop i, l0.take i] = some (ringOf l0)) := Lib.hid (by
    unfold slices_Concat_int_int.f
    have e : [l0.drop i, l0.take i].flatten = ringOf l0 := by rw [HF.out]; simp
    rw [e, ringOf_length, if_pos hlim])
  have HW1 := Lib.hid hW1
  clear hW1
  go_still_tail 6, (by kernel_rfl)
  change wpList _ _ _ _ _ W.drew
  rw [HW1.out]
  have hcz : ∀ j, j < l0.length → W1.cell? ⟨b, off + j, none⟩ = some (.int .i64 (l0.getD j 0)) := fun j hj => (hbW1.cell (p := ⟨b, off + j, none⟩) hbw).trans (hcw.out j hj)
  have HCZ := Lib.hid hcz
  clear hcz hC
  have hbN : Below w.heap.size w (W1.alloc (.cells #[.slice (some ⟨b, off + i, none⟩) (l0.length - i) (c0 - i), .slice (some ⟨b, off, none⟩) i c0] 25)) := hbW1.alloc hbW1.size _
  have hCN := Kd.C_below HR.out hbN
  have hCd : Hid (Kd.C (Kd.int .i64) (W1.alloc (.cells #[.slice (some ⟨b, off + i, none⟩) (l0.length - i) (c0 - i), .slice (some ⟨b, off, none⟩) i c0] 25)) (some ⟨b, off + i, none⟩) (l0.drop i).length (l0.drop i)) := Lib.hid (by
    have := Kd.C_drop (m := i) hCN b3 hc0
    rw [if_neg b4, show Kd.sz (Kd.int .i64) = 1 from rfl, Nat.mul_one] at this
    rw [show (some (⟨b, off, none⟩ : Addr)).map (fun x => x.add i) = some ⟨b, off + i, none⟩ by simp [add_at]] at this
    exact this)
  have hCt : Hid (Kd.C (Kd.int .i64) (W1.alloc (.cells #[.slice (some ⟨b, off + i, none⟩) (l0.length - i) (c0 - i), .slice (some ⟨b, off, none⟩) i c0] 25)) (some ⟨b, off, none⟩) (l0.take i).length (l0.take i)) := Lib.hid (Kd.C_take hCN b3)
  have hCC : Hid (Kd.C (Kd.slice 3 (Kd.int .i64)) (W1.alloc (.cells #[.slice (some ⟨b, off + i, none⟩) (l0.length - i) (c0 - i), .slice (some ⟨b, off, none⟩) i c0] 25)) (some ⟨W1.heap.size, 0, none⟩) ([l0.drop i, l0.take i] : List (List Int)).length [l0.drop i, l0.take i]) := Lib.hid (by
    refine C_two (c1 := c0 - i) (c2 := c0) ?_ hCd.out hCt.out ?_ ?_
    · rw [hlen.out, hlen2.out]; exact heap_alloc_new _ _
    · rw [hlen.out]; omega
    · rw [hlen2.out]; exact b5)
  have HbN := Lib.hid hbN
  clear hCN hbN
  have HRL : Hid ((ringOf l0).length = l0.length) := Lib.hid (ringOf_length l0)
  have HTR : Hid (turnRow l0 = if (ringOf l0).getD 1 0 > (ringOf l0).getD ((ringOf l0).length - 1) 0 then (ringOf l0).take 1 ++ ((ringOf l0).drop 1).reverse else ringOf l0) := Lib.hid rfl
  generalize htr : turnRow l0 = tr at HTR
  have Htr := Lib.hid htr
  clear htr
  generalize ringOf l0 = rg at HCR HTR HRL
  go_wp2_with (go_at_call 42; refine (slices_Concat_int_int.calls (some ⟨W1.heap.size, 0, none⟩) 2 [l0.drop i, l0.take i] rg _ hCC.out (Nat.le_refl _) HCR.out).mono ?_; rintro e w2 ⟨v, rfl, hv, hb2⟩)
  have HV := Lib.hid (Kd.R_lower hv (HbN.out.size))
  have HB2 := Lib.hid (HbN.out.trans (hb2.mono HbN.out.size))
  obtain ⟨g, cap, cur, rfl, hO⟩ := Blk.of_own (xs := rg) (by simpa [encs] using Kd.own_of_R HV.out) rfl (by have := HRL.out; omega)
  clear hv hb2
  have hN : 3 ≤ rg.length := by have := HRL.out; omega
  have hcap := hO.len
  have hN2 : rg.length ≤ 9223372036854775807 := by have := HRL.out; omega
  have hc1 : w2.cell? ⟨g, 1, none⟩ = some (.int .i64 (rg.getD 1 0)) := hO.cell 1 (by omega)
  have hc2 : w2.cell? ⟨g, rg.length - 1, none⟩ = some (.int .i64 (rg.getD (rg.length - 1) 0)) := hO.cell (rg.length - 1) (by omega)
  have HO := Lib.hid hO
  clear hO hCC hCd hCt HCZ hcw HR HCR hbW hbW1 HW1 HI HM HF HU
  generalize hx : rg.getD 1 0 = x at hc1 HTR
  generalize hy : rg.getD (rg.length - 1) 0 = y at hc2 HTR
  have n1 : (1 : Int) < (rg.length : Int) := by omega
  have n2 : (0 : Int) ≤ (rg.length : Int) - 1 := by omega
  have n3 : IntKind.i64.wrap ((rg.length : Int) - 1) = (rg.length : Int) - 1 := IntWalk.i64_in _ (by omega)
  have n4 : ((rg.length : Int) - 1).toNat = rg.length - 1 := by omega
  have n5 : (rg.length : Int) - 1 < (rg.length : Int) := by omega
  have n6 : 1 < rg.length := by omega
  have n7 : (1 : Int) ≤ (rg.length : Int) := by omega
  have n8 : 1 ≤ rg.length := by omega
  by_cases hxy : x > y
  · have d1 : decide (x > y) = true := decide_eq_true hxy
    have d2 : y < x := hxy
    have HT2 : Hid (tr = rg.take 1 ++ (rg.drop 1).reverse) := Lib.hid (by rw [HTR.out, if_pos hxy])
    go_quiet (fail)
    have hO1 : Blk (w2.drewN nq) w.heap.size g cap cur rg := HO.out.below (pw_below_drewN (Below.refl _ _) _)
    have hB1 : Below w.heap.size w (w2.drewN nq) := pw_below_drewN HB2.out _
    generalize w2.drewN nq = W4 at hO1 hB1 ⊢
    have n9 : ¬ cap = 1 := by omega
    have n10 : 1 ≤ cap := by omega
    have n11 : (1 : Int) ≤ (cap : Int) := by omega
    have hcs : Hid (∀ j, j < (rg.drop 1).length → W4.cell? ⟨g, 1 + j, none⟩ = some (.int .i64 ((rg.drop 1).getD j 0))) := Lib.hid (fun j hj => by
      rw [List.length_drop] at hj
      have := hO1.cell (1 + j) (by omega)
      rw [this]; simp [List.getD_eq_getElem?_getD, List.getElem?_drop, Nat.add_comm])
    have hfz : Hid (∀ j, j < rg.length - 1 → W4.frozen? ⟨g, 1 + j, none⟩ = false) := Lib.hid (fun j _ => blk_frozen hO1.blk (1 + j))
    have hz : rg.length - 1 ≤ (rg.drop 1).length := by rw [List.length_drop]; exact Nat.le_refl _
    have HO1 := Lib.hid hO1
    have HB1 := Lib.hid hB1
    clear hO1 hB1 HB2 HO HV hc1 hc2 hx hy HTR HbN
    go_wp2_with (go_at_call 43; refine (Try.slices_Reverse_int_cells g 1 (rg.length - 1) (cap - 1) (rg.drop 1) W4 hz (by omega) hcs.out hfz.out).mono ?_; rintro e w5 ⟨rfl, q, hw5⟩; have HW5 := Lib.hid hw5; clear hw5)
    have hfin := HO1.out.rev n8 q
    rw [← HT2.out, ← Htr.out, ← HW5.out] at hfin
    have hfb : Below w.heap.size w w5 := by rw [HW5.out]; exact bel_setCells HO1.out.bas _ _ _ (pw_below_drewN HB1.out _)
    have HFI := Lib.hid hfin
    clear hfin HT2
    go_ret
    exact ⟨_, rfl, HFI.out, hfb⟩
  · have d1 : decide (x > y) = false := decide_eq_false hxy
    have d2 : ¬ y < x := hxy
    have d3 : x ≤ y := by omega
    have HT2 : Hid (tr = rg) := Lib.hid (by rw [HTR.out, if_neg hxy])
    go_quiet (fail)
    have HV1 := Lib.hid (Kd.R_below HV.out (pw_below_drewN (Below.refl _ _) nq))
    have HB1 := Lib.hid (pw_below_drewN HB2.out nq)
    generalize w2.drewN nq = W4 at HV1 HB1 ⊢
    clear HB2 HO HV hc1 hc2 hx hy HTR HbN
    go_wp2
    go_ret
    refine ⟨_, rfl, ?_, HB1.out⟩
    rw [Htr.out, HT2.out]
    exact HV1.out

theorem walk_Turn.calls (A0 : Option Addr) (c0 : Nat) (l0 : List Int) (r : List Int) (w : World) (hr0 : Kd.C (Kd.int .i64) w A0 l0.length l0) (hc0 : l0.length ≤ c0) (h : walk_Turn.f l0 = some r) :
    Calls Try.prog 22 #[.slice A0 l0.length c0] w fun e w' => ∃ v0_ : Value, e = .returned (v0_) ∧ Kd.R (Kd.int .i64) 3 w' w.heap.size (fun _ => True) v0_ r ∧ Below w.heap.size w w' := by
  unfold walk_Turn.f at h
  split at h
  · next hlim =>
    split at h
    · next hp =>
      obtain rfl := Option.some.inj h
      exact turn_plain A0 c0 l0 w hr0 hc0 hlim hp
    · next hp =>
      obtain rfl := Option.some.inj h
      have h3 : 3 ≤ l0.length := by
        rcases Nat.lt_or_ge l0.length 3 with h | h
        · exact absurd (.inl h) hp
        · exact h
      have hnd : l0.Nodup := Classical.byContradiction fun h => hp (.inr h)
      obtain ⟨b, off, rfl, _⟩ := C_plain hr0 (by omega)
      exact turn_ring b off c0 l0 w hr0 hc0 hlim h3 hnd
  · cases h

end Go.Proofs.Ytngglgkemonibaa.P
