/- R29: rest.least. -/
import Derived.Test.YtnmocjhpbobahaaZ16
set_option linter.unusedVariables false
set_option linter.unusedSimpArgs false
set_option linter.unnecessarySimpa false
namespace Go.Proofs.Ytnmocjhpbobahaa.L
open Go Go.RowKit
set_option maxRecDepth 100000
set_option maxHeartbeats 4000000
noncomputable abbrev ELeast : Env := ext (ext env0 51 specHas) 46 specCut
def leastC (r : Rst) (a b : Nat) (c : Int) : Option Cu := if (b : Int) < c ∧ c ∈ nthR r.near a then (if (cutF r a b c.toNat).2 = true then some (cutF r a b c.toNat).1 else none) else none
def leastB (r : Rst) (a : Nat) (b : Int) : Option Cu := if b < a then none else (nthR r.near b.toNat).findSome? (leastC r a b.toNat)
def leastA (r : Rst) (a : Nat) : Option Cu := (nthR r.near a).findSome? (leastB r a)
def leastF (r : Rst) : Option Cu := (List.range r.near.length).findSome? (leastA r)
theorem fs_hit {α β : Type} {l : List α} {f : α → Option β} {i : Nat} {x : β} (hi : i < l.length) (h0 : (l.take i).findSome? f = none) (h1 : f l[i] = some x) : l.findSome? f = some x := by
  rw [← List.take_append_drop i l, List.findSome?_append, h0, List.drop_eq_getElem_cons hi, List.findSome?_cons, h1]; rfl
theorem fs_step {α β : Type} {l : List α} {f : α → Option β} {i : Nat} (hi : i < l.length) (h0 : (l.take i).findSome? f = none) (h1 : f l[i] = none) : (l.take (i + 1)).findSome? f = none := by
  rw [List.take_succ_eq_append_getElem hi, List.findSome?_append, h0, List.findSome?_cons, h1]; rfl
def cuO : Option Cu → Cu × Bool
  | some x => (x, true)
  | none => ((0, 0, 0, 0, 0, 0), false)
abbrev zcu : SV Unit := ⟨.one, [.c (.bx true () [.sc (.int .i64 0), .sc (.int .i64 0), .sc (.int .i64 0), .sc (.int .i64 0), .sc (.int .i64 0), .sc (.int .i64 0)])]⟩
abbrev leS (r : Rst) (a i : Nat) : St Unit := [(0, rf r), (2, zcu), (4, iv a), (15, iv r.near.length), (16, iv a), (25, ints (nthR r.near a)), (26, iv (nthR r.near a).length), (27, iv i)]
abbrev leT (r : Rst) (a b i j : Nat) : St Unit := [(0, rf r), (2, zcu), (4, iv a), (6, iv b), (15, iv r.near.length), (16, iv a), (25, ints (nthR r.near a)), (26, iv (nthR r.near a).length), (27, iv i), (40, ints (nthR r.near b)), (41, iv (nthR r.near b).length), (42, iv j)]
theorem wLeast (n : Nat) (r : Rst) (hr : RstOk n r) (hn : n ≤ 1000000) : ∃ k, Try.f29.body = some k ∧ RP (regOf Try.prog ELeast 70 u29) k (argsSt 0 [rf r]) (endsAs Try.prog Try.f29 (cutB (cuO (leastF r)).1 (cuO (leastF r)).2)) := by
  refine ⟨_, rfl, ?_⟩
  generalize hQ : endsAs Try.prog Try.f29 (cutB (cuO (leastF r)).1 (cuO (leastF r)).2) = Q
  simp only [argsSt]
  have c1 := hr.near
  refine go ?_
  apply rp_loop (fun k σ => ∃ a : Nat, a ≤ n ∧ k = n - a ∧ ((List.range n).take a).findSome? (leastA r) = none ∧ σ = [(0, rf r), (2, ⟨.one, [.c (.bx true () [.sc (.int .i64 0), .sc (.int .i64 0), .sc (.int .i64 0), .sc (.int .i64 0), .sc (.int .i64 0), .sc (.int .i64 0)])]⟩), (15, iv r.near.length), (16, iv a)]) n
  · exact ⟨0, by omega, by omega, rfl, rfl⟩
  rintro k σ ⟨a, ha, rfl, hno, rfl⟩
  by_cases hal : a < n
  · have a1 : a < r.near.length := by omega
    have ka : HasOk r a := ⟨n, hr, hn, hal⟩
    have la := hr.len hal
    have la2 : (nthR r.near a).length ≤ 17592186043904 := by omega
    have hA : ∀ x, leastA r a = some x → leastF r = some x := fun x h => fs_hit (l := List.range r.near.length) (i := a) (by rw [List.length_range]; exact a1) (by rw [c1]; exact hno) (by rw [List.getElem_range]; exact h)
    refine go ?_
    refine rp_scope ?_
    apply rp_seq
    apply rp_label
    refine go ?_
    apply rp_loop (fun k σ => ∃ i : Nat, i ≤ (nthR r.near a).length ∧ k = (nthR r.near a).length - i ∧ ((nthR r.near a).take i).findSome? (leastB r a) = none ∧ σ = leS r a i) (nthR r.near a).length
    · exact ⟨0, by omega, by omega, rfl, rfl⟩
    rintro k σ ⟨i, hi, rfl, hno2, rfl⟩
    by_cases hil : i < (nthR r.near a).length
    · have hmem : nth (nthR r.near a) i ∈ nthR r.near a := by rw [nth_eq hil]; exact List.getElem_mem hil
      have hrng := hr.rng a hal _ hmem
      have hB : ∀ x, leastB r a (nth (nthR r.near a) i) = some x → leastA r a = some x := fun x h => fs_hit hil hno2 (by rw [← nth_eq hil]; exact h)
      have hB0 : leastB r a (nth (nthR r.near a) i) = none → ((nthR r.near a).take (i + 1)).findSome? (leastB r a) = none := fun h => fs_step hil hno2 (by rw [← nth_eq hil]; exact h)
      generalize hb : nth (nthR r.near a) i = b' at *
      obtain ⟨b, rfl⟩ : ∃ b : Nat, b' = (b : Int) := ⟨b'.toNat, by omega⟩
      have hbn : b < n := by omega
      by_cases hba : (b : Int) < a
      · have e0 : leastB r a b = none := by unfold leastB; rw [if_pos hba]
        refine go ?_
        try rw [hb]
        refine go ?_
        exact nxt ((nthR r.near a).length - (i + 1)) (by omega) ⟨i + 1, by omega, rfl, hB0 e0, rfl⟩
      have b1 : b < r.near.length := by omega
      have lb := hr.len hbn
      have lb2 : (nthR r.near b).length ≤ 17592186043904 := by omega
      have eB : leastB r a b = (nthR r.near b).findSome? (leastC r a b) := by unfold leastB; rw [if_neg hba]; rfl
      rw [eB] at hB hB0
      refine go ?_
      try rw [hb]
      refine go ?_
      apply rp_loop (fun k σ => ∃ j : Nat, j ≤ (nthR r.near b).length ∧ k = (nthR r.near b).length - j ∧ ((nthR r.near b).take j).findSome? (leastC r a b) = none ∧ σ = leT r a b i j) (nthR r.near b).length
      · exact ⟨0, by omega, by omega, rfl, rfl⟩
      rintro k σ ⟨j, hj, rfl, hno3, rfl⟩
      by_cases hjl : j < (nthR r.near b).length
      · have hmem3 : nth (nthR r.near b) j ∈ nthR r.near b := by rw [nth_eq hjl]; exact List.getElem_mem hjl
        have hrng3 := hr.rng b hbn _ hmem3
        have hC : ∀ x, leastC r a b (nth (nthR r.near b) j) = some x → (nthR r.near b).findSome? (leastC r a b) = some x := fun x h => fs_hit hjl hno3 (by rw [← nth_eq hjl]; exact h)
        have hC0 : leastC r a b (nth (nthR r.near b) j) = none → ((nthR r.near b).take (j + 1)).findSome? (leastC r a b) = none := fun h => fs_step hjl hno3 (by rw [← nth_eq hjl]; exact h)
        generalize hc : nth (nthR r.near b) j = c' at *
        obtain ⟨c, rfl⟩ : ∃ c : Nat, c' = (c : Int) := ⟨c'.toNat, by omega⟩
        have hcn : c < n := by omega
        by_cases hbc : (b : Int) < c
        · by_cases hca : (c : Int) ∈ nthR r.near a
          · have tri : TriOk r a b c := ⟨n, hr, hn, hal, hbn, hcn⟩
            have eC : leastC r a b c = if (cutF r a b c).2 = true then some (cutF r a b c).1 else none := by unfold leastC; rw [if_pos ⟨hbc, hca⟩]; rfl
            refine go ?_
            try rw [hc]
            refine go ?_
            cases hk : (cutF r a b c).2 with
            | true =>
              rw [hk, if_pos rfl] at eC
              rw [hA _ (hB _ (hC _ eC))] at hQ
              refine go ?_
              show Q .ret _; refine fin_ret hQ rfl ?_
              rfl
            | false =>
              rw [hk, if_neg (by decide)] at eC
              refine go ?_
              exact nxt ((nthR r.near b).length - (j + 1)) (by omega) ⟨j + 1, by omega, rfl, hC0 eC, rfl⟩
          · have eC : leastC r a b c = none := by unfold leastC; rw [if_neg (fun h => hca h.2)]
            refine go ?_
            try rw [hc]
            refine go ?_
            exact nxt ((nthR r.near b).length - (j + 1)) (by omega) ⟨j + 1, by omega, rfl, hC0 eC, rfl⟩
        · have eC : leastC r a b c = none := by unfold leastC; rw [if_neg (fun h => hbc h.1)]
          refine go ?_
          try rw [hc]
          refine go ?_
          exact nxt ((nthR r.near b).length - (j + 1)) (by omega) ⟨j + 1, by omega, rfl, hC0 eC, rfl⟩
      obtain rfl : j = (nthR r.near b).length := by omega
      rw [List.take_length] at hno3
      refine go ?_
      exact nxt ((nthR r.near a).length - (i + 1)) (by omega) ⟨i + 1, by omega, rfl, hB0 hno3, rfl⟩
    obtain rfl : i = (nthR r.near a).length := by omega
    rw [List.take_length] at hno2
    refine go ?_
    exact nxt (n - (a + 1)) (by omega) ⟨a + 1, by omega, rfl, fs_step (l := List.range n) (by rw [List.length_range]; exact hal) hno (by rw [List.getElem_range]; exact hno2), rfl⟩
  obtain rfl : a = n := by omega
  rw [List.take_of_length_le (by rw [List.length_range]; exact Nat.le_refl _)] at hno
  have e : leastF r = none := by unfold leastF; rw [c1]; exact hno
  rw [e] at hQ
  refine go ?_
  show Q .ret _; refine fin_ret hQ rfl ?_
  rfl
theorem ELeast_ok : EnvOk Try.prog ELeast := ext_ok (ext_ok env0_ok okHas) okCut
def LeastOk (r : Rst) : Prop := RstOk r.near.length r ∧ r.near.length ≤ 1000000
noncomputable def specLeast : Spec := fun us => match us with
  | [x] => match asRst x with
    | some r => whenC (LeastOk r) (cutB (cuO (leastF r)).1 (cuO (leastF r)).2)
    | _ => none
  | _ => none
theorem okLeast : SpecOk 29 specLeast := by
  intro us R h
  unfold specLeast at h
  split at h
  · split at h
    · next x _ r h1 =>
      obtain ⟨⟨h2, h3⟩, rfl⟩ := whenC_eq h
      rw [asRst_eq h1]
      exact goodBy2 ELeast_ok Try.func29 rfl (Nat.le_of_ble_eq_true rfl) (by decide) (wLeast _ r h2 h3)
    · cases h
  · cases h
@[simp] theorem sLeastR {r : Rst} (h : LeastOk r) : specLeast [⟨.one, [.c (rstF r)]⟩] = some (cutB (cuO (leastF r)).1 (cuO (leastF r)).2) := by
  unfold specLeast
  simp only [asRst_rst]
  exact whenC_pos _ h
@[simp] theorem callLeast {E : Env} {σ : St Unit} {t : Nat} {l : List Operand} : effCall Try.prog E ΩU σ t 29 l = callO E 29 t (argsOf Try.prog ΩU σ [63] l) := eff_call Try.func29 Try.params29
end Go.Proofs.Ytnmocjhpbobahaa.L
