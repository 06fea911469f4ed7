/- M7: what an operation does does not hang on addresses: the effect of the bare trees is the bare effect. M8: the bare effect (on). -/
import Derived.Test.YtnmocjhpbobahaaQ0
set_option linter.unusedVariables false
set_option linter.unusedSimpArgs false
set_option linter.unnecessarySimpa false
namespace Go.Proofs.Ytnmocjhpbobahaa.L
open Go

section
variable {α : Type}
def ΩU : Orc Unit := ⟨(), (), id⟩

theorem eraseL_eq (l : List (Cell α)) : eraseL l = l.map Cell.erase := by
  induction l with
  | nil => rfl
  | cons c l ih => simp [eraseL, ih]
theorem freezeL_eq (l : List (Cell α)) : freezeL l = l.map Cell.freeze := by
  induction l with
  | nil => rfl
  | cons c l ih => simp [freezeL, ih]
@[simp] theorem row_erase (c : Cell α) : c.erase.row = c.row.map Cell.erase := by cases c <;> simp [Cell.erase, Cell.row, eraseL_eq]
@[simp] theorem isOwn_erase (c : Cell α) : c.erase.isOwn = c.isOwn := by cases c <;> simp [Cell.erase, Cell.isOwn]
@[simp] theorem copyable_erase (c : Cell α) : c.erase.copyable = c.copyable := by cases c <;> simp [Cell.erase, Cell.copyable]
@[simp] theorem isDead_erase (c : Cell α) : c.erase.isDead = c.isDead := by cases c <;> simp [Cell.erase, Cell.isDead]
theorem withRow_erase (c : Cell α) (l : List (Cell α)) : (c.withRow l).erase = c.erase.withRow (l.map Cell.erase) := by cases c <;> simp [Cell.erase, Cell.withRow, eraseL_eq]
@[simp] theorem erase_dead : (Cell.dead : Cell α).erase = .dead := by simp [Cell.erase]
theorem getC_erase : ∀ (p : List Nat) (c : Cell α), c.erase.getC p = (c.getC p).map Cell.erase
  | [], c => rfl
  | j :: q, c => by
    simp only [Cell.getC, isOwn_erase, row_erase, List.getElem?_map]
    split
    · cases h : c.row[j]? with
      | none => rfl
      | some d => simp only [Option.map_some]; exact getC_erase q d
    · rfl
theorem setC_erase : ∀ (p : List Nat) (c y : Cell α), (c.setC p y).erase = c.erase.setC p y.erase
  | [], c, y => rfl
  | j :: q, c, y => by
    simp only [Cell.setC, row_erase, List.getElem?_map]
    cases h : c.row[j]? with
    | none => rfl
    | some d => simp only [Option.map_some]; rw [withRow_erase, List.map_set, setC_erase q d y]
theorem getP_erase (v : SV α) (p : List Nat) : v.erase.getP p = (v.getP p).map Cell.erase := by
  cases p with
  | nil => rfl
  | cons j q =>
    simp only [SV.getP, SV.erase, List.getElem?_map]
    cases h : v.cs[j]? with
    | none => rfl
    | some x => cases x <;> simp [SC.erase, getC_erase]
theorem setP_erase (v : SV α) (p : List Nat) (y : Cell α) : (v.setP p y).erase = v.erase.setP p y.erase := by
  cases p with
  | nil => rfl
  | cons j q =>
    simp only [SV.setP, SV.erase, List.getElem?_map]
    cases h : v.cs[j]? with
    | none => rfl
    | some x => cases x <;> simp [SC.erase, setC_erase, List.map_set]
theorem get_erase (σ : St α) (s : Nat) : σ.erase.get s = (σ.get s).erase := by
  induction σ with
  | nil => rfl
  | cons x l ih =>
    obtain ⟨k, u⟩ := x
    by_cases h : s = k
    · subst h; simp [St.erase, St.get, List.lookup]
    · have : (s == k) = false := by simpa using h
      simp only [St.erase, St.get, List.map_cons, List.lookup, this] at ih ⊢
      exact ih
theorem put_erase (σ : St α) (s : Nat) (v : SV α) : (σ.put s v).erase = σ.erase.put s v.erase := by
  induction σ with
  | nil => rfl
  | cons x l ih =>
    obtain ⟨k, u⟩ := x
    simp only [St.put, St.erase, List.map_cons] at ih ⊢
    split
    · simp
    · split
      · simp
      · simp [ih]
theorem dies_erase (x : SC α) (r : Nat) (p : List Nat) : x.erase.dies r p = x.dies r p := by
  cases x with
  | cut r' y ws => simp [SC.erase, SC.dies, List.any_map, Function.comp_def]
  | _ => rfl
theorem scKill_erase (x : SC α) (ks : List (Nat × List Nat)) : (x.kill ks).erase = x.erase.kill ks := by
  unfold SC.kill
  simp only [dies_erase]
  split <;> rfl
theorem svKill_erase (v : SV α) (ks : List (Nat × List Nat)) : (v.kill ks).erase = v.erase.kill ks := by
  simp [SV.kill, SV.erase, scKill_erase]
theorem kill_erase (σ : St α) (ks : List (Nat × List Nat)) : (St.kill σ ks).erase = St.kill σ.erase ks := by
  cases ks with
  | nil => rfl
  | cons k ks => simp [St.kill, St.erase, svKill_erase]
theorem putAll_erase (σ : St α) (l : List (Nat × SV α)) : (putAll σ l).erase = putAll σ.erase (eraseCh l) := by
  induction l generalizing σ with
  | nil => rfl
  | cons x l ih => obtain ⟨s, v⟩ := x; simp only [putAll, eraseCh, List.map_cons]; rw [ih, put_erase]; rfl
theorem app_erase (σ : St α) (e : Eff α) : (σ.app e).erase = σ.erase.app e.erase := by
  simp [St.app, Eff.erase, putAll_erase, kill_erase]

theorem scal_erase (x : SC α) : x.erase.scal = x.scal := by
  cases x with
  | c y => cases y <;> simp [SC.erase, Cell.erase, SC.scal]
  | _ => rfl
theorem scals_erase (l : List (SC α)) : scals (l.map SC.erase) = scals l := by
  induction l with
  | nil => rfl
  | cons x l ih => simp [scals, scal_erase, ih]
theorem val_erase (v : SV α) : v.erase.val = v.val := by simp [SV.val, SV.erase, scals_erase]
theorem valOf_erase (σ : St α) (x : Operand) : valOf σ.erase x = valOf σ x := by
  cases x <;> simp [valOf, get_erase, val_erase]
theorem intOf_erase (σ : St α) (x : Operand) : intOf? σ.erase x = intOf? σ x := by simp [intOf?, valOf_erase]
theorem natOf_erase (σ : St α) (x : Operand) : natOf? σ.erase x = natOf? σ x := by simp [natOf?, intOf_erase]
theorem ofVal_erase (v : Value) : (ofVal v : Option (SV Unit)) = (ofVal v : Option (SV α)).map SV.erase := by
  unfold ofVal
  split
  · split <;> simp [SV.erase, SC.erase, Cell.erase]
  · split <;> simp [SV.erase, SC.erase, Cell.erase]

theorem cellOfConst_erase (nil : α) (sz : Nat) (v : Value) : cellOfConst () sz v = (cellOfConst nil sz v).map Cell.erase := by
  unfold cellOfConst
  split
  · split <;> simp [Cell.erase, eraseL]
  · split <;> simp [Cell.erase]
theorem cellsOfConst_erase (nil : α) : ∀ (vs : List Value) (szl : List Nat), cellsOfConst () szl vs = (cellsOfConst nil szl vs).map (List.map Cell.erase)
  | [], _ => rfl
  | v :: vs, szl => by
    simp only [cellsOfConst]
    rw [cellOfConst_erase nil, cellsOfConst_erase nil vs]
    cases cellOfConst nil (szl.headD 1) v <;> cases cellsOfConst nil szl.tail vs <;> simp
theorem zeroCellsOf_erase (P : Program) (nil : α) (t : TypeId) : zeroCellsOf P () t = (zeroCellsOf P nil t).map (List.map Cell.erase) := by
  unfold zeroCellsOf
  cases P.info? t with
  | none => rfl
  | some i => cases h : i.zero <;> simp [h, cellsOfConst_erase nil]
theorem constSV_erase (P : Program) (nil : α) (t : TypeId) (v : Value) : constSV P () t v = (constSV P nil t v).map SV.erase := by
  unfold constSV
  split
  · rw [cellsOfConst_erase nil]
    cases cellsOfConst nil (szs P 8 t) _ <;> simp [SV.erase, SC.erase]
  · rw [cellOfConst_erase nil]
    cases cellOfConst nil (szOf P t) _ <;> simp [SV.erase, SC.erase]
theorem opd_erase (P : Program) (Ω : Orc α) (σ : St α) (t : TypeId) (x : Operand) : opd P ΩU σ.erase t x = (opd P Ω σ t x).map SV.erase := by
  cases x <;> simp [opd, get_erase, ΩU, constSV_erase P Ω.nil]

def Pend.erase (d : Pend α) : Pend Unit := ⟨eraseCh d.ch, d.kill⟩
theorem lookup_erase (ch : List (Nat × SV α)) (r : Nat) : (eraseCh ch).lookup r = (ch.lookup r).map SV.erase := by
  induction ch with
  | nil => rfl
  | cons x l ih =>
    obtain ⟨k, u⟩ := x
    simp only [eraseCh, List.map_cons, List.lookup] at ih ⊢
    split <;> simp_all
theorem ovGet_erase (σ : St α) (ch : List (Nat × SV α)) (r : Nat) : ovGet σ.erase (eraseCh ch) r = (ovGet σ ch r).erase := by
  unfold ovGet
  rw [lookup_erase]
  cases ch.lookup r <;> simp [get_erase]
def eraseTk (z : Cell α × Pend α) : Cell Unit × Pend Unit := (z.1.erase, z.2.erase)
theorem takeAt_erase (σ : St α) (d : Pend α) (r : Nat) (p : List Nat) : takeAt σ.erase d.erase r p = (takeAt σ d r p).map eraseTk := by
  unfold takeAt
  simp only [Pend.erase, ovGet_erase, getP_erase]
  cases h : (ovGet σ d.ch r).getP p with
  | none => rfl
  | some y =>
    simp only [Option.map_some, isOwn_erase]
    split
    · simp [eraseTk, Pend.erase, eraseCh, setP_erase]
    · rfl
theorem place_erase (s i : Nat) (x : SC α) : x.erase.place s i = x.place s i := by
  cases x <;> simp [SC.erase, SC.place]
theorem takeSC_erase (σ : St α) (d : Pend α) (s i : Nat) (x : SC α) : takeSC σ.erase d.erase s i x.erase = (takeSC σ d s i x).map eraseTk := by
  unfold takeSC
  rw [place_erase]
  cases x.place s i with
  | some rp => exact takeAt_erase σ d _ _
  | none => cases x with
    | c y =>
      simp only [SC.erase, copyable_erase]
      split <;> simp [eraseTk]
    | _ => rfl
def eraseTks (z : List (Cell α) × Pend α) : List (Cell Unit) × Pend Unit := (z.1.map Cell.erase, z.2.erase)
theorem takeAll_erase (σ : St α) (s : Nat) : ∀ (l : List (SC α)) (d : Pend α) (i : Nat), takeAll σ.erase s d.erase i (l.map SC.erase) = (takeAll σ s d i l).map eraseTks
  | [], d, i => rfl
  | x :: l, d, i => by
    simp only [List.map_cons, takeAll]
    rw [takeSC_erase]
    cases h : takeSC σ d s i x with
    | none => rfl
    | some z =>
      obtain ⟨y, d'⟩ := z
      simp only [Option.map_some, eraseTk]
      rw [takeAll_erase σ s l d' (i + 1)]
      cases h2 : takeAll σ s d' (i + 1) l with
      | none => rfl
      | some z2 => simp [eraseTks]
theorem share_erase (s i : Nat) (x : SC α) : (share s i x).erase = share s i x.erase := by
  cases x with
  | c y => cases h : y.isOwn <;> simp [share, SC.erase, h]
  | _ => rfl
theorem shareAll_erase (s : Nat) : ∀ (l : List (SC α)) (i : Nat), (shareAll s i l).map SC.erase = shareAll s i (l.map SC.erase)
  | [], _ => rfl
  | x :: l, i => by simp [shareAll, share_erase, shareAll_erase s l]

theorem takeFrom_erase (σ : St α) (so : Option Nat) (d : Pend α) (l : List (SC α)) : takeFrom σ.erase so d.erase (l.map SC.erase) = (takeFrom σ so d l).map eraseTks := by
  cases so with
  | some s => exact takeAll_erase σ s l d 0
  | none =>
    simp only [takeFrom, Option.map_some, eraseTks, List.map_map]
    congr 2
    apply List.map_congr_left
    intro x _
    cases x <;> simp [SC.erase, SC.cell]
theorem shareFrom_erase (so : Option Nat) (l : List (SC α)) : (shareFrom so l).map SC.erase = shareFrom so (l.map SC.erase) := by
  cases so with
  | some s => exact shareAll_erase s l 0
  | none => rfl

def Ad.erase : Ad α → Ad Unit
  | .own r p off => .own r p off
  | .frz _ row off => .frz () (row.map Cell.erase) off
theorem adOf_erase (σ : St α) (x : Operand) : adOf σ.erase x = (adOf σ x).map Ad.erase := by
  cases x with
  | tmp s =>
    simp only [adOf, get_erase, SV.erase]
    split
    rotate_left
    · rfl
    cases h : (σ.get s).cs with
    | nil => rfl
    | cons x l =>
      cases l with
      | cons y l => simp only [List.map_cons]; cases x <;> simp [SC.erase] <;> (rename_i c; cases c <;> simp [Cell.erase])
      | nil =>
        simp only [List.map_cons, List.map_nil]
        cases x with
        | c y => cases y with
          | bx o a row => cases o <;> simp [SC.erase, Cell.erase, Ad.erase, eraseL_eq]
          | _ => simp [SC.erase, Cell.erase]
        | view r p =>
          simp only [SC.erase]
          have e := getP_erase (σ.get r) p
          simp only [SV.erase] at e
          rw [e]
          cases h2 : (σ.get r).getP p with
          | none => rfl
          | some y => cases y with
            | bx o a row => cases o <;> simp [Cell.erase, Ad.erase]
            | _ => simp [Cell.erase]
        | win r p a b c => rfl
        | ref r p o m => cases m <;> simp [SC.erase, Ad.erase]
        | fref a row o => simp [SC.erase, Ad.erase, eraseL_eq]
        | cut r y ws => rfl
        | dead => rfl
  | _ => rfl
theorem rowAtP_erase (σ : St α) (r : Nat) (p : List Nat) : rowAtP σ.erase r p = (rowAtP σ r p).map (List.map Cell.erase) := by
  unfold rowAtP
  rw [get_erase, getP_erase]
  cases h : (σ.get r).getP p with
  | none => rfl
  | some y => simp only [Option.map_some, isOwn_erase, row_erase]; split <;> simp
theorem seen_erase (r : Nat) (p : List Nat) : ∀ (l : List (Cell α)) (off : Nat), seen r p off (l.map Cell.erase) = (seen r p off l).map (List.map SC.erase)
  | [], _ => rfl
  | x :: l, off => by
    simp only [List.map_cons, seen, isOwn_erase, copyable_erase]
    rw [seen_erase r p l]
    by_cases h : x.isOwn = true
    · simp only [h, if_true]
      cases seen r p (off + 1) l <;> simp [SC.erase]
    · simp only [h, if_false]
      by_cases h2 : x.copyable = true
      · simp only [h2, if_true]
        cases seen r p (off + 1) l <;> simp [SC.erase]
      · simp [h2]
def SD.erase : SD α → SD Unit
  | .own r p sz lo n w f row => .own r p sz lo n w f (row.map Cell.erase)
  | .frz sz _ row => .frz sz () (row.map Cell.erase)
theorem sdOf_erase (σ : St α) (x : Operand) : sdOf σ.erase x = (sdOf σ x).map SD.erase := by
  cases x with
  | tmp s =>
    simp only [sdOf, get_erase, SV.erase]
    split
    rotate_left
    · rfl
    cases h : (σ.get s).cs with
    | nil => rfl
    | cons x l =>
      cases l with
      | cons y l => simp only [List.map_cons]; cases x <;> simp [SC.erase] <;> (rename_i c; cases c <;> simp [Cell.erase])
      | nil =>
        simp only [List.map_cons, List.map_nil]
        cases x with
        | c y => cases y with
          | sl o sz a row => cases o <;> simp [SC.erase, Cell.erase, SD.erase, eraseL_eq]
          | _ => simp [SC.erase, Cell.erase]
        | view r p =>
          simp only [SC.erase]
          have e := getP_erase (σ.get r) p
          simp only [SV.erase] at e
          rw [e]
          cases h2 : (σ.get r).getP p with
          | none => rfl
          | some y => cases y with
            | sl o sz a row => cases o <;> simp [Cell.erase, SD.erase, eraseL_eq]
            | _ => simp [Cell.erase]
        | win r p lo n f =>
          simp only [SC.erase]
          have e := getP_erase (σ.get r) p
          simp only [SV.erase] at e
          rw [e]
          cases h2 : (σ.get r).getP p with
          | none => rfl
          | some y => cases y with
            | sl o sz a row =>
              cases o with
              | true =>
                simp only [Option.map_some, Cell.erase, eraseL_eq, List.length_map]
                split <;> simp [SD.erase]
              | false => simp [Cell.erase]
            | _ => simp [Cell.erase]
        | ref r p o m => rfl
        | fref a row o => rfl
        | cut r y ws => rfl
        | dead => rfl
  | _ => rfl
@[simp] theorem sd_sz_erase (d : SD α) : d.erase.sz = d.sz := by cases d <;> rfl
@[simp] theorem sd_row_erase (d : SD α) : d.erase.row = d.row.map Cell.erase := by cases d <;> rfl
end
end Go.Proofs.Ytnmocjhpbobahaa.L
namespace Go.Proofs.Ytnmocjhpbobahaa.L
open Go

section
variable {α : Type}
theorem effPut_erase (t : Nat) (v : SV α) : (effPut t v).erase = effPut t v.erase := rfl
theorem eraseCh_append (l m : List (Nat × SV α)) : eraseCh (l ++ m) = eraseCh l ++ eraseCh m := by simp [eraseCh]
theorem eraseCh_reverse (l : List (Nat × SV α)) : eraseCh l.reverse = (eraseCh l).reverse := by simp [eraseCh]
theorem fin_erase (d : Pend α) (t : Nat) (v : SV α) : (d.fin t v).erase = d.erase.fin t v.erase := by
  simp [Pend.fin, Eff.erase, Pend.erase, eraseCh_reverse, eraseCh_append]; simp [eraseCh]
theorem pend0_erase : (pend0 : Pend α).erase = pend0 := rfl
theorem one_erase (x : SC α) : (one x).erase = one x.erase := rfl

theorem setRun_map {β γ : Type} (f : β → γ) : ∀ (ys row : List β) (off : Nat), (setRun row off ys).map f = setRun (row.map f) off (ys.map f)
  | [], _, _ => rfl
  | y :: ys, row, off => by simp only [setRun, List.map_cons]; rw [setRun_map f ys, List.map_set]
theorem fillParts_map {β γ : Type} (f : β → γ) (place : Nat → Option (Nat × Nat)) : ∀ (ps : List (Nat × List β)) (l : List β),
    fillParts place (l.map f) (ps.map fun x => (x.1, x.2.map f)) = (fillParts place l ps).map (List.map f)
  | [], l => rfl
  | (i, xs) :: rest, l => by
    simp only [List.map_cons, fillParts, List.length_map]
    cases place i with
    | none => rfl
    | some os =>
      obtain ⟨off, size⟩ := os
      simp only
      split
      · rw [← setRun_map, fillParts_map f place rest]
      · rfl

theorem live_erase (x : SC α) : x.erase.live = x.live := by
  cases x with
  | c y => cases y <;> simp [SC.erase, Cell.erase, SC.live]
  | _ => rfl
theorem okPart_erase (v : SV α) : v.erase.okPart = v.okPart := by
  simp [SV.okPart, SV.erase, List.all_map, Function.comp_def, live_erase]
def erasePart (x : Nat × Option Nat × List (SC α)) : Nat × Option Nat × List (SC Unit) := (x.1, x.2.1, x.2.2.map SC.erase)
theorem partsOf_erase (P : Program) (Ω : Orc α) (σ : St α) (ty : Nat → TypeId) : ∀ (l : List (Nat × Operand)), partsOf P ΩU σ.erase ty l = (partsOf P Ω σ ty l).map (List.map erasePart)
  | [] => rfl
  | (i, x) :: rest => by
    simp only [partsOf]
    rw [opd_erase P Ω, partsOf_erase P Ω σ ty rest]
    cases opd P Ω σ (ty i) x with
    | none => rfl
    | some v =>
      cases partsOf P Ω σ ty rest with
      | none => rfl
      | some l =>
        simp only [Option.map_some, okPart_erase]
        split <;> simp [erasePart, SV.erase]
def eraseTP (z : List (Nat × List (Cell α)) × Pend α) : List (Nat × List (Cell Unit)) × Pend Unit := (z.1.map fun x => (x.1, x.2.map Cell.erase), z.2.erase)
theorem takeParts_erase (σ : St α) : ∀ (l : List (Nat × Option Nat × List (SC α))) (d : Pend α), takeParts σ.erase d.erase (l.map erasePart) = (takeParts σ d l).map eraseTP
  | [], d => rfl
  | (i, s, cs) :: rest, d => by
    simp only [List.map_cons, takeParts, erasePart]
    rw [takeFrom_erase]
    cases takeFrom σ s d cs with
    | none => rfl
    | some z =>
      obtain ⟨ys, d'⟩ := z
      simp only [Option.map_some, eraseTks]
      have := takeParts_erase σ rest d'
      rw [this]
      cases takeParts σ d' rest with
      | none => rfl
      | some z2 => simp [eraseTP]
theorem seeParts_erase : ∀ (l : List (Nat × Option Nat × List (SC α))), seeParts (l.map erasePart) = (seeParts l).map fun x => (x.1, x.2.map SC.erase)
  | [] => rfl
  | (i, s, cs) :: rest => by simp only [List.map_cons, erasePart, seeParts, shareFrom_erase, seeParts_erase rest]

theorem erase_unit0 (c : Cell Unit) : c.erase = c := by
  induction c using Cell.rec (motive_2 := fun l => eraseL l = l) with
  | sc v => simp [Cell.erase]
  | sl o sz a row ih => simp [Cell.erase, ih]
  | bx o a row ih => simp [Cell.erase, ih]
  | dead => simp [Cell.erase]
  | nil => rfl
  | cons c l h1 h2 => simp [eraseL, h1, h2]
theorem argSC0_erase (σ : St α) (x : SC α) : argSC0 σ.erase x.erase = argSC0 σ x := by
  have hu : ∀ c : Cell α, c.erase.erase = c.erase := fun c => erase_unit0 _
  cases x with
  | c y => cases y <;> simp [SC.erase, argSC0, Cell.erase, eraseL_eq, List.map_map, Function.comp_def, hu]
  | view r p =>
    simp only [SC.erase, argSC0, get_erase, getP_erase]
    cases h : (σ.get r).getP p with
    | none => rfl
    | some y => simp [hu]
  | win r p lo n f =>
    simp only [SC.erase, argSC0, get_erase, getP_erase]
    cases h : (σ.get r).getP p with
    | none => rfl
    | some y => cases y with
      | sl o sz a row => cases o <;> simp [Cell.erase, eraseL_eq, List.map_map, Function.comp_def, hu, ← List.map_drop, ← List.map_take]
      | _ => simp [Cell.erase]
  | ref r p o m =>
    cases m with
    | none => rfl
    | some z =>
      simp only [SC.erase, argSC0, get_erase, getP_erase]
      cases h : (σ.get r).getP p with
      | none => rfl
      | some y =>
        simp only [Option.map_some, isOwn_erase, row_erase, List.length_map, ← List.map_drop, ← List.map_take, eraseL_eq, List.map_map, Function.comp_def, hu]
  | fref a row o => rfl
  | cut r x ws => rfl
  | dead => rfl
theorem partSc_erase (r : Nat) (q : Part) : (q.sc r : SC α).erase = q.sc r := by cases q <;> rfl
theorem cutRow_erase (σ : St α) (r : Nat) : ∀ (ws : List (Nat × Part × Cell α)) (row : List (Cell Unit)), cutRow σ.erase r row (ws.map fun e => (e.1, e.2.1, e.2.2.erase)) = cutRow σ r row ws
  | [], _ => rfl
  | e :: ws, row => by
    simp only [List.map_cons, cutRow]
    have h0 := argSC0_erase σ (e.2.1.sc r)
    rw [partSc_erase] at h0
    rw [h0]
    cases argSC0 σ (e.2.1.sc r) with
    | none => rfl
    | some x => cases x with
      | c c => exact cutRow_erase σ r ws _
      | _ => rfl
theorem argSC_erase (σ : St α) (x : SC α) : argSC σ.erase x.erase = argSC σ x := by
  cases x with
  | cut r x ws =>
    simp only [SC.erase, argSC]
    cases x with
    | sl o sz a row => cases o with
      | true => simp only [Cell.erase]; rw [cutRow_erase, show eraseL (eraseL row) = eraseL row by rw [eraseL_eq, eraseL_eq, List.map_map]; exact List.map_congr_left fun c _ => erase_unit0 _]
      | false => rfl
    | _ => rfl
  | c y => exact argSC0_erase σ (.c y)
  | view r p => exact argSC0_erase σ (.view r p)
  | win r p lo n f => exact argSC0_erase σ (.win r p lo n f)
  | ref r p o m => exact argSC0_erase σ (.ref r p o m)
  | fref a row o => exact argSC0_erase σ (.fref a row o)
  | dead => exact argSC0_erase σ .dead
theorem argSCs_erase (σ : St α) : ∀ (l : List (SC α)), argSCs σ.erase (l.map SC.erase) = argSCs σ l
  | [] => rfl
  | x :: l => by simp only [List.map_cons, argSCs]; rw [argSC_erase, argSCs_erase σ l]
theorem argOf_erase (P : Program) (Ω : Orc α) (σ : St α) (t : TypeId) (x : Operand) : argOf P ΩU σ.erase t x = argOf P Ω σ t x := by
  unfold argOf
  rw [opd_erase P Ω]
  cases opd P Ω σ t x with
  | none => rfl
  | some v =>
    simp only [Option.map_some, SV.erase]
    rw [argSCs_erase]
theorem argsOf_erase (P : Program) (Ω : Orc α) (σ : St α) : ∀ (l : List Operand) (ts : List TypeId), argsOf P ΩU σ.erase ts l = argsOf P Ω σ ts l
  | [], _ => rfl
  | x :: l, ts => by simp only [argsOf]; rw [argOf_erase P Ω, argsOf_erase P Ω σ l]

theorem sliceSC_erase (Ω : Orc α) (d : SD α) (l h : Nat) (f : Bool) : sliceSC ΩU d.erase l h f = (sliceSC Ω d l h f).erase := by
  cases d <;> simp [sliceSC, SD.erase, SC.erase, Cell.erase, eraseL_eq, ΩU, List.map_drop, List.map_take]
theorem ownSl_erase (v : SV α) : v.erase.ownSl = v.ownSl := by
  unfold SV.ownSl SV.erase
  cases h : v.cs with
  | nil => rfl
  | cons x l => cases l with
    | cons y l => rfl
    | nil => cases x with
      | c c => cases c <;> simp [SC.erase, Cell.erase]
      | _ => rfl
theorem newsOf_erase (σ : St α) (sz : Nat) (x : Operand) : newsOf σ.erase sz x = (newsOf σ sz x).map eraseTks := by
  unfold newsOf
  rw [sdOf_erase]
  cases sdOf σ x with
  | none => rfl
  | some d =>
    simp only [Option.map_some, sd_sz_erase]
    split
    · cases x with
      | tmp s =>
        simp only [get_erase, ownSl_erase]
        split
        · have := takeAt_erase σ pend0 s [0]
          rw [pend0_erase] at this
          rw [this]
          cases takeAt σ pend0 s [0] with
          | none => rfl
          | some z => simp [eraseTk, eraseTks]
        · have : (d.erase.row).all Cell.copyable = d.row.all Cell.copyable := by simp [List.all_map, Function.comp_def]
          rw [this]
          split <;> simp [eraseTks, pend0_erase]
      | _ => rfl
    · rfl

theorem effPure_erase (P : Program) (σ : St α) (t : Nat) (o : Oper) : effPure P σ.erase t o = (effPure P σ t o).map Eff.erase := by
  unfold effPure
  simp only [valOf_erase]
  split
  · split
    · rw [ofVal_erase (α := α)]
      cases (ofVal _ : Option (SV α)) <;> simp [effPut_erase]
    · rfl
  · rfl
theorem effMove_erase (P : Program) (Ω : Orc α) (σ : St α) (t ty : Nat) (x : Operand) : effMove P ΩU σ.erase t ty x = (effMove P Ω σ t ty x).map Eff.erase := by
  unfold effMove
  rw [opd_erase P Ω]
  cases opd P Ω σ ty x with
  | none => rfl
  | some v => simp [effPut_erase, SV.erase, shareFrom_erase]
def eraseTopZ (z : SC α × Pend α) : SC Unit × Pend Unit := (z.1.erase, z.2.erase)
theorem topSC_erase (σ : St α) (s t : Nat) (d : Pend α) (i : Nat) (x : SC α) : topSC σ.erase s t d.erase i x.erase = (topSC σ s t d i x).map eraseTopZ := by
  cases x with
  | c y =>
    simp only [SC.erase, topSC, isOwn_erase]
    split
    · rw [takeAt_erase]; cases takeAt σ d s [i] <;> simp [eraseTk, eraseTopZ, SC.erase]
    · simp [eraseTopZ, SC.erase]
  | view r p =>
    simp only [SC.erase, topSC]
    split
    · split
      · rfl
      · rw [takeAt_erase]; cases takeAt σ d r p <;> simp [eraseTk, eraseTopZ, SC.erase]
    · rfl
  | _ => rfl
theorem takeTop_erase (σ : St α) (s t : Nat) : ∀ (l : List (SC α)) (d : Pend α) (i : Nat), takeTop σ.erase s t d.erase i (l.map SC.erase) = (takeTop σ s t d i l).map (fun z => (z.1.map SC.erase, z.2.erase))
  | [], d, i => rfl
  | x :: l, d, i => by
    simp only [List.map_cons, takeTop]
    rw [topSC_erase]
    cases topSC σ s t d i x with
    | none => rfl
    | some z =>
      obtain ⟨y, d'⟩ := z
      simp only [Option.map_some, eraseTopZ]
      rw [takeTop_erase σ s t l d' (i + 1)]
      cases takeTop σ s t d' (i + 1) l with
      | none => rfl
      | some z2 => simp
theorem top_erase (v : SV α) : v.erase.top = v.top := by
  unfold SV.top SV.erase
  cases v.k with
  | one => cases h : v.cs with
    | nil => rfl
    | cons x l => cases l with
      | cons y l => rfl
      | nil => cases x <;> rfl
  | _ => rfl
theorem effAssign_erase (P : Program) (Ω : Orc α) (σ : St α) (t ty : Nat) (x : Operand) : effAssign P ΩU σ.erase t ty x = (effAssign P Ω σ t ty x).map Eff.erase := by
  cases x with
  | tmp s =>
    simp only [effAssign]
    by_cases hs : s = t
    · simp [hs]
    · simp only [hs, if_false]
      rw [get_erase, top_erase]
      cases (σ.get s).top with
      | view r =>
        simp only
        have hlen : ((σ.get r).erase).cs.length = (σ.get r).cs.length := by simp [SV.erase]
        have hkk : ((σ.get r).erase).k = (σ.get r).k := rfl
        split
        · rw [get_erase]
          by_cases hk : (σ.get r).k = .one ∧ (σ.get r).cs.length = 1
          · rw [if_pos hk, if_pos (by rw [hlen, hkk]; exact hk)]; rfl
          · rw [if_neg hk, if_neg (by rw [hlen, hkk]; exact hk)]; rfl
        · have := takeAt_erase σ pend0 r [0]
          rw [pend0_erase] at this
          rw [this, get_erase]
          cases takeAt σ pend0 r [0] with
          | none => rfl
          | some z =>
            simp only [Option.map_some, eraseTk, Eff.erase, Pend.erase]
            by_cases hk : (σ.get r).k = .one ∧ (σ.get r).cs.length = 1 ∧ r ≠ s
            · rw [if_pos hk, if_pos (by rw [hlen, hkk]; exact hk)]; rfl
            · rw [if_neg hk, if_neg (by rw [hlen, hkk]; exact hk)]; rfl
      | win r lo n =>
        simp only
        split
        · rw [get_erase, getP_erase]
          cases h : (σ.get r).getP [0] with
          | none => rfl
          | some y => cases y with
            | sl o sz a row => cases o with
              | false => simp [Cell.erase]
              | true =>
                simp only [Option.map_some, Cell.erase, eraseL_eq, List.length_map, SV.erase]
                split
                · have := takeAt_erase σ pend0 r [0]
                  rw [pend0_erase] at this
                  rw [this]
                  cases takeAt σ pend0 r [0] with
                  | none => rfl
                  | some z => simp [eraseTk, Eff.erase, Pend.erase, eraseCh, one, SV.erase, SC.erase, Cell.erase, eraseL_eq, ΩU, List.map_drop, List.map_take]
                · rfl
            | _ => simp [Cell.erase]
        · simp [effPut_erase]
      | other =>
        simp only
        have := takeTop_erase σ s t (σ.get s).cs pend0 0
        rw [pend0_erase] at this
        simp only [SV.erase]
        rw [this]
        cases takeTop σ s t pend0 0 (σ.get s).cs with
        | none => rfl
        | some z => simp [fin_erase, SV.erase]
  | const v =>
    simp only [effAssign]
    rw [opd_erase P Ω]
    cases opd P Ω σ ty (.const v) <;> simp [effPut_erase]
  | global g =>
    simp only [effAssign]
    rw [opd_erase P Ω]
    cases opd P Ω σ ty (.global g) <;> simp [effPut_erase]
  | func f =>
    simp only [effAssign]
    rw [opd_erase P Ω]
    cases opd P Ω σ ty (.func f) <;> simp [effPut_erase]
theorem effAlloc_erase (P : Program) (Ω : Orc α) (t e : Nat) : effAlloc P ΩU t e = (effAlloc P Ω t e).map Eff.erase := by
  unfold effAlloc
  rw [show zeroCellsOf P ΩU.nil e = _ from zeroCellsOf_erase P Ω.nil e]
  cases zeroCellsOf P Ω.nil e <;> simp [effPut_erase, one_erase, SC.erase, Cell.erase, eraseL_eq, ΩU]
theorem effBox_erase (P : Program) (Ω : Orc α) (σ : St α) (t e : Nat) (x : Operand) : effBox P ΩU σ.erase t e x = (effBox P Ω σ t e x).map Eff.erase := by
  unfold effBox
  rw [opd_erase P Ω]
  cases opd P Ω σ e x with
  | none => rfl
  | some v =>
    simp only [Option.map_some]
    show (if v.k.flat = true then _ else _) = _
    split
    · have := takeFrom_erase σ (slotOf x) pend0 v.cs
      rw [pend0_erase] at this
      simp only [SV.erase]
      rw [this]
      cases takeFrom σ (slotOf x) pend0 v.cs with
      | none => rfl
      | some z =>
        simp only [Option.map_some, eraseTks, List.length_map]
        split <;> simp [fin_erase, one_erase, SC.erase, Cell.erase, eraseL_eq, ΩU]
    · rfl
theorem effBuild_erase (P : Program) (Ω : Orc α) (σ : St α) (t ty : Nat) (parts : List (Nat × Operand)) : effBuild P ΩU σ.erase t ty parts = (effBuild P Ω σ t ty parts).map Eff.erase := by
  unfold effBuild
  split
  · rw [show zeroCellsOf P ΩU.nil ty = _ from zeroCellsOf_erase P Ω.nil ty, partsOf_erase P Ω]
    cases zeroCellsOf P Ω.nil ty with
    | none => rfl
    | some z => cases partsOf P Ω σ (fieldTy P ty) parts with
      | none => rfl
      | some ps =>
        simp only [Option.map_some]
        rw [seeParts_erase]
        have : (z.map Cell.erase).map SC.c = (z.map SC.c).map SC.erase := by simp [SC.erase]
        rw [this, fillParts_map]
        cases fillParts (fieldPl P ty) (z.map SC.c) (seeParts ps) with
        | none => rfl
        | some l => simp [effPut_erase, SV.erase]
  · rfl
theorem effBuildSlice_erase (P : Program) (Ω : Orc α) (σ : St α) (t ty len : Nat) (parts : List (Nat × Operand)) : effBuildSlice P ΩU σ.erase t ty len parts = (effBuildSlice P Ω σ t ty len parts).map Eff.erase := by
  unfold effBuildSlice
  cases P.underlying ty with
  | none => rfl
  | some d => cases d with
    | slice e =>
      simp only
      split
      · rw [show zeroCellsOf P ΩU.nil e = _ from zeroCellsOf_erase P Ω.nil e, partsOf_erase P Ω]
        cases zeroCellsOf P Ω.nil e with
        | none => rfl
        | some z => cases partsOf P Ω σ (fieldTy P ty) parts with
          | none => rfl
          | some ps =>
            simp only [Option.map_some]
            have := takeParts_erase σ ps pend0
            rw [pend0_erase] at this
            rw [this]
            cases takeParts σ pend0 ps with
            | none => rfl
            | some q =>
              simp only [Option.map_some, eraseTP, List.length_map]
              have : (List.replicate len (z.map Cell.erase)).flatten = ((List.replicate len z).flatten).map Cell.erase := by simp [List.map_flatten]
              rw [this, fillParts_map]
              cases fillParts (fieldPl P ty) (List.replicate len z).flatten q.1 with
              | none => rfl
              | some row =>
                simp only [Option.map_some]
                split <;> simp [fin_erase, one_erase, SC.erase, Cell.erase, eraseL_eq, ΩU]
      · rfl
    | _ => rfl
theorem cutOf_erase (x : Nat × Option Nat × List (SC α)) : cutOf (erasePart x) = cutOf x := by
  obtain ⟨i, s, cs⟩ := x
  match cs with
  | [] => rfl
  | [y] => cases y with
    | ref r p o m => cases m <;> rfl
    | _ => rfl
  | y :: z :: l => cases y with
    | ref r p o m => cases m <;> rfl
    | _ => rfl
theorem stripCut_erase (x : Nat × Option Nat × List (SC α)) : stripCut (erasePart x) = erasePart (stripCut x) := by
  unfold stripCut
  rw [cutOf_erase]
  cases cutOf x with
  | none => rfl
  | some z => rfl
theorem hdLen_erase (σ : St α) (r : Nat) (q : Part) : hdLen σ.erase r q = hdLen σ r q := by
  cases q with
  | arr p off n sz => rfl
  | win p lo n f =>
    simp only [hdLen, get_erase, getP_erase]
    cases (σ.get r).getP p with
    | none => rfl
    | some y => cases y with
      | sl o sz a row => cases o <;> simp [Cell.erase]
      | _ => simp [Cell.erase]
theorem cutWs_erase (σ : St α) (r : Nat) : ∀ (l : List (Nat × Option Nat × List (SC α))), cutWs σ.erase r (l.map erasePart) = cutWs σ r l
  | [] => rfl
  | x :: l => by
    simp only [List.map_cons, cutWs, cutOf_erase, hdLen_erase, cutWs_erase σ r l]
    rfl
theorem cutRoot_erase (l : List (Nat × Option Nat × List (SC α))) : cutRoot (l.map erasePart) = cutRoot l := by
  unfold cutRoot
  rw [List.filterMap_map, show (cutOf ∘ erasePart : Nat × Option Nat × List (SC α) → _) = cutOf from funext cutOf_erase]
theorem cell_erase (x : SC α) : x.erase.cell = x.cell.erase := by cases x <;> simp [SC.erase, SC.cell, Cell.erase]
theorem putHd_erase : ∀ (ws : List (Nat × Part × Nat)) (hs : List (SC α)), putHd ws (hs.map SC.erase) = (putHd ws hs).map fun e => (e.1, e.2.1, e.2.2.erase)
  | [], hs => by cases hs <;> rfl
  | _ :: _, [] => rfl
  | e :: ws, x :: hs => by simp only [List.map_cons, putHd, cell_erase, putHd_erase ws hs]
theorem effCut_erase (P : Program) (Ω : Orc α) (hΩ : ∀ r, (Ω.dec r).erase = r) (σ : St α) (t ty len : Nat) (parts : List (Nat × Operand)) : effCut P ΩU σ.erase t ty len parts = (effCut P Ω σ t ty len parts).map Eff.erase := by
  unfold effCut
  cases P.underlying ty with
  | none => rfl
  | some d => cases d with
    | slice e =>
      simp only
      split
      · rw [show zeroCellsOf P ΩU.nil e = _ from zeroCellsOf_erase P Ω.nil e, partsOf_erase P Ω]
        cases zeroCellsOf P Ω.nil e with
        | none => rfl
        | some z => cases partsOf P Ω σ (fieldTy P ty) parts with
          | none => rfl
          | some ps =>
            simp only [Option.map_some, cutRoot_erase]
            cases cutRoot ps with
            | none => rfl
            | some r =>
            have := takeParts_erase σ (ps.map stripCut) pend0
            rw [pend0_erase, List.map_map, show (erasePart ∘ stripCut : Nat × Option Nat × List (SC α) → _) = stripCut ∘ erasePart from (funext fun x => (stripCut_erase x).symm), ← List.map_map] at this
            simp only [cutWs_erase]
            cases cutWs σ r ps with
            | none => rfl
            | some ws =>
            rw [this]
            cases takeParts σ pend0 (ps.map stripCut) with
            | none => rfl
            | some q =>
              simp only [Option.map_some, eraseTP, List.length_map]
              have : (List.replicate len (z.map Cell.erase)).flatten = ((List.replicate len z).flatten).map Cell.erase := by simp [List.map_flatten]
              rw [this, fillParts_map]
              cases fillParts (fieldPl P ty) (List.replicate len z).flatten q.1 with
              | none => rfl
              | some row =>
                have hd : (ΩU.dec ⟨.one, ws.map fun e => hdU e.2.2⟩).cs = (Ω.dec ⟨.one, ws.map fun e => hdU e.2.2⟩).cs.map SC.erase := by
                  have := hΩ ⟨.one, ws.map fun e => hdU e.2.2⟩
                  show (⟨.one, ws.map fun e => hdU e.2.2⟩ : SV Unit).cs = _
                  exact (congrArg SV.cs this).symm
                simp only [Option.map_some, hd, putHd_erase, Pend.erase, eraseCh, List.all_map, Function.comp_def]
                split <;> simp [fin_erase, one_erase, SC.erase, Cell.erase, eraseL_eq, ΩU, Pend.erase, eraseCh, Pend.fin, Eff.erase, one, SV.erase]
      · rfl
    | _ => rfl
theorem effMake_erase (P : Program) (Ω : Orc α) (σ : St α) (t ty : Nat) (x y : Operand) : effMake P ΩU σ.erase t ty x y = (effMake P Ω σ t ty x y).map Eff.erase := by
  unfold effMake
  rw [natOf_erase, natOf_erase]
  cases P.underlying ty with
  | none => rfl
  | some d => cases d with
    | slice e =>
      cases natOf? σ x with
      | none => rfl
      | some n => cases natOf? σ y with
        | none => rfl
        | some c =>
          simp only
          rw [show zeroCellsOf P ΩU.nil e = _ from zeroCellsOf_erase P Ω.nil e]
          cases zeroCellsOf P Ω.nil e with
          | none => rfl
          | some z =>
            simp only [Option.map_some, List.length_map]
            split
            · simp [effPut_erase, one_erase, SC.erase, Cell.erase, eraseL_eq, ΩU, List.map_flatten]
            · rfl
    | _ => rfl
theorem aggOr_erase (P : Program) (ty t : Nat) (l : List (SC α)) : aggOr P ty t (l.map SC.erase) = (aggOr P ty t l).map Eff.erase := by
  unfold aggOr
  split
  · rfl
  · split <;> rfl
theorem effLoad_erase (P : Program) (σ : St α) (t ty : Nat) (x : Operand) : effLoad P σ.erase t ty x = (effLoad P σ t ty x).map Eff.erase := by
  unfold effLoad
  rw [adOf_erase]
  cases adOf σ x with
  | none => rfl
  | some ad => cases ad with
    | own r p off =>
      simp only [Option.map_some, Ad.erase, rowAtP_erase]
      cases rowAtP σ r p with
      | none => rfl
      | some row =>
        simp only [Option.map_some, List.length_map]
        split
        · rw [← List.map_drop, ← List.map_take, seen_erase]
          cases seen r p off ((row.drop off).take (P.cellsOf ty)) with
          | none => rfl
          | some l => simp only [Option.map_some]; exact aggOr_erase P ty t l
        · rfl
    | frz a row off =>
      simp only [Option.map_some, Ad.erase, List.length_map]
      have e1 : (row.map Cell.erase).all Cell.copyable = row.all Cell.copyable := by simp [List.all_map, Function.comp_def]
      rw [e1]
      split
      · have e2 : (((row.map Cell.erase).drop off).take (P.cellsOf ty)).map SC.c = (((row.drop off).take (P.cellsOf ty)).map SC.c).map SC.erase := by
          simp [← List.map_drop, ← List.map_take, SC.erase]
        rw [e2, aggOr_erase]
      · rfl
theorem effStore_erase (P : Program) (Ω : Orc α) (σ : St α) (ty : Nat) (x y : Operand) : effStore P ΩU σ.erase ty x y = (effStore P Ω σ ty x y).map Eff.erase := by
  unfold effStore
  rw [adOf_erase, opd_erase P Ω]
  cases adOf σ x with
  | none => rfl
  | some ad => cases ad with
    | frz a row off => cases opd P Ω σ ty y <;> rfl
    | own r p off => cases opd P Ω σ ty y with
      | none => rfl
      | some v =>
        simp only [Option.map_some, Ad.erase]
        have := takeFrom_erase σ (slotOf y) pend0 v.cs
        rw [pend0_erase] at this
        simp only [SV.erase]
        rw [this]
        cases takeFrom σ (slotOf y) pend0 v.cs with
        | none => rfl
        | some z =>
          obtain ⟨l, d⟩ := z
          simp only [Option.map_some, eraseTks, List.length_map, Pend.erase, show (SV.mk v.k (v.cs.map SC.erase)).okPart = v.okPart from okPart_erase v]
          split
          · rw [ovGet_erase, getP_erase]
            cases h : (ovGet σ d.ch r).getP p with
            | none => rfl
            | some c =>
              simp only [Option.map_some, isOwn_erase, row_erase, List.length_map]
              split
              · simp only [Option.map_some, Eff.erase, eraseCh_append, eraseCh_reverse]
                simp only [eraseCh, List.map_cons, List.map_nil, setP_erase, withRow_erase, setRun_map]
              · rfl
          · rfl
theorem effFieldAddr_erase (P : Program) (σ : St α) (t ty : Nat) (x : Operand) (f : Nat) : effFieldAddr P σ.erase t ty x f = (effFieldAddr P σ t ty x f).map Eff.erase := by
  unfold effFieldAddr
  rw [adOf_erase]
  cases P.underlying ty with
  | none => rfl
  | some d => cases d with
    | struct fs => cases adOf σ x with
      | none => rfl
      | some ad =>
        simp only [Option.map_some]
        cases fs[f]? with
        | none => rfl
        | some fd =>
          simp only
          split
          · rfl
          · cases ad <;> simp [Ad.erase, effPut_erase, one_erase, SC.erase, eraseL_eq]
    | _ => rfl
theorem effIndexAddr_erase (P : Program) (σ : St α) (t ty : Nat) (x y : Operand) : effIndexAddr P σ.erase t ty x y = (effIndexAddr P σ t ty x y).map Eff.erase := by
  unfold effIndexAddr
  rw [adOf_erase, intOf_erase, sdOf_erase]
  cases P.underlying ty with
  | none => rfl
  | some d => cases d with
    | slice e => cases intOf? σ y with
      | none => rfl
      | some i => cases sdOf σ x with
        | none => rfl
        | some d =>
          simp only [Option.map_some, sd_sz_erase, sd_row_erase, List.length_map]
          split
          · split
            · cases d <;> simp [SD.erase, SD.sz, effPut_erase, one_erase, SC.erase, eraseL_eq]
            · rfl
          · rfl
    | array n e => cases intOf? σ y with
      | none => rfl
      | some i => cases adOf σ x with
        | none => rfl
        | some ad =>
          simp only [Option.map_some]
          split
          · cases ad <;> simp [Ad.erase, effPut_erase, one_erase, SC.erase, eraseL_eq]
          · rfl
    | _ => rfl
theorem bound_erase (σ : St α) (n : Nat) (x : Option Operand) : bound σ.erase n x = bound σ n x := by cases x <;> simp [bound, natOf_erase]
theorem effSlice_erase (P : Program) (Ω : Orc α) (σ : St α) (t ty : Nat) (x : Operand) (lo hi mx : Option Operand) : effSlice P ΩU σ.erase t ty x lo hi mx = (effSlice P Ω σ t ty x lo hi mx).map Eff.erase := by
  unfold effSlice
  rw [sdOf_erase]
  cases P.underlying ty with
  | none => rfl
  | some d => cases d with
    | slice e => cases sdOf σ x with
      | none => rfl
      | some d =>
        simp only [Option.map_some, sd_sz_erase, sd_row_erase, List.length_map, bound_erase]
        split
        · split
          · split
            · rw [sliceSC_erase Ω]; simp [effPut_erase, one_erase]
            · rfl
          · rfl
        · rfl
    | _ => rfl
theorem effSliceArr_erase (P : Program) (σ : St α) (t ty : Nat) (x : Operand) (lo hi mx : Option Operand) : effSliceArr P σ.erase t ty x lo hi mx = (effSliceArr P σ t ty x lo hi mx).map Eff.erase := by
  unfold effSliceArr
  rw [adOf_erase]
  cases P.underlying ty with
  | none => rfl
  | some d =>
    cases d with
    | array n e =>
      cases adOf σ x with
      | none => rfl
      | some ad =>
        cases ad with
        | own r p off =>
          simp only [Option.map_some, Ad.erase]
          split <;> rfl
        | frz a row off => rfl
    | _ => cases adOf σ x <;> rfl
theorem effNilCmp_erase (P : Program) (σ : St α) (t : Nat) (op : BinOp) (ty : Nat) (x y : Operand) : effNilCmp P σ.erase t op ty x y = (effNilCmp P σ t op ty x y).map Eff.erase := by
  unfold effNilCmp
  rw [sdOf_erase]
  split
  · cases sdOf σ x with
    | none => rfl
    | some d =>
      have : d.erase.row.length = d.row.length := by cases d <;> simp [SD.erase, SD.row]
      simp only [Option.map_some, this]
      split
      · cases op <;> rfl
      · rfl
  · rfl
theorem effSliceNil_erase (P : Program) (Ω : Orc α) (σ : St α) (t ty : Nat) (o : Oper) : effSliceNil P ΩU σ.erase t ty o = (effSliceNil P Ω σ t ty o).map Eff.erase := by
  unfold effSliceNil
  simp only [valOf_erase]
  split
  · split
    · split
      · simp [effPut_erase, one_erase, SC.erase, Cell.erase, eraseL, ΩU]
      · rfl
    · rfl
  · rfl
theorem effLen_erase (P : Program) (σ : St α) (t : Nat) (args : List Operand) (tys : List TypeId) : effLen P σ.erase t args tys = (effLen P σ t args tys).map Eff.erase := by
  unfold effLen
  split
  · rw [sdOf_erase]
    cases P.underlying _ with
    | none => rfl
    | some d => cases d with
      | slice e => cases sdOf σ _ with
        | none => rfl
        | some d =>
          simp only [Option.map_some, sd_sz_erase, sd_row_erase, List.length_map]
          split <;> simp [effPut_erase, one_erase, SC.erase, Cell.erase]
      | _ => rfl
  · rfl
theorem effAppend_erase (P : Program) (Ω : Orc α) (σ : St α) (t : Nat) (args : List Operand) (tys : List TypeId) : effAppend P ΩU σ.erase t args tys = (effAppend P Ω σ t args tys).map Eff.erase := by
  unfold effAppend
  split
  · next x y tx ty =>
    rw [sdOf_erase]
    cases P.underlying tx with
    | none => rfl
    | some d => cases d with
      | slice e => cases P.underlying ty with
        | none => rfl
        | some d2 => cases d2 with
          | slice e2 => cases sdOf σ x with
            | none => rfl
            | some d =>
              simp only [Option.map_some, sd_sz_erase, sd_row_erase, List.length_map]
              split
              · rw [newsOf_erase]
                cases newsOf σ d.sz y with
                | none => rfl
                | some z =>
                  obtain ⟨news, pd⟩ := z
                  have e0 : ∀ l : List (Cell α), (l.map Cell.erase).all (!·.isDead) = l.all (!·.isDead) := by intro l; simp [List.all_map, Function.comp_def]
                  simp only [Option.map_some, eraseTks, List.length_map, e0]
                  split
                  · cases d with
                    | frz sz a row => rfl
                    | own r p sz lo n w f row =>
                      cases w with
                      | true =>
                        simp only [SD.erase]
                        rw [takeAt_erase]
                        cases takeAt σ pd r p with
                        | none => rfl
                        | some z => simp [eraseTk, fin_erase, one_erase, SC.erase, Cell.erase, eraseL_eq, ΩU]
                      | false => cases f with
                        | false => rfl
                        | true =>
                          simp only [SD.erase]
                          have e1 : (row.map Cell.erase).all Cell.copyable = row.all Cell.copyable := by simp [List.all_map, Function.comp_def]
                          rw [e1]
                          split <;> simp [fin_erase, one_erase, SC.erase, Cell.erase, eraseL_eq, ΩU]
                  · rfl
              · rfl
          | _ => rfl
      | _ => cases P.underlying ty with
        | none => rfl
        | some d2 => cases d2 <;> rfl
  · rfl
theorem effCopy_erase (P : Program) (σ : St α) (t : Nat) (args : List Operand) (tys : List TypeId) : effCopy P σ.erase t args tys = (effCopy P σ t args tys).map Eff.erase := by
  unfold effCopy
  split
  · next x y tx ty =>
    rw [sdOf_erase, sdOf_erase]
    cases P.underlying tx with
    | none => rfl
    | some d => cases d with
      | slice e => cases P.underlying ty with
        | none => rfl
        | some d2 => cases d2 with
          | slice e2 => cases sdOf σ x with
            | none => rfl
            | some d => cases d with
              | frz sz a row => cases sdOf σ y <;> rfl
              | own r p sz lo n w f drow => cases sdOf σ y with
                | none => rfl
                | some d =>
                  simp only [Option.map_some, show (SD.own r p sz lo n w f drow).erase = SD.own r p sz lo n w f (drow.map Cell.erase) from rfl, sd_sz_erase, sd_row_erase, List.length_map]
                  have e1 : ∀ l : List (Cell α), (l.map Cell.erase).all Cell.copyable = l.all Cell.copyable := by intro l; simp [List.all_map, Function.comp_def]
                  rw [e1, e1]
                  split
                  · rw [get_erase, getP_erase]
                    cases (σ.get r).getP p with
                    | none => rfl
                    | some cl =>
                      simp only [Option.map_some, row_erase, Eff.erase, eraseCh, List.map_cons, List.map_nil, setP_erase, withRow_erase, setRun_map, List.map_take, one_erase, SC.erase, Cell.erase]
                  · rfl
          | _ => rfl
      | _ => cases P.underlying ty with
        | none => rfl
        | some d2 => cases d2 <;> rfl
  · rfl
theorem effCall_erase (P : Program) (E : Env) (Ω : Orc α) (hΩ : ∀ r, (Ω.dec r).erase = r) (σ : St α) (t f : Nat) (args : List Operand) : effCall P E ΩU σ.erase t f args = (effCall P E Ω σ t f args).map Eff.erase := by
  unfold effCall
  cases P.funcs[f]? with
  | none => rfl
  | some fn =>
    simp only
    rw [argsOf_erase P Ω]
    cases argsOf P Ω σ fn.params.toList args with
    | none => rfl
    | some l =>
      simp only
      cases E f l with
      | none => rfl
      | some r =>
        simp only
        split
        · simp [effPut_erase, hΩ, ΩU]
        · rfl
mutual
theorem erase_twice : ∀ c : Cell α, c.erase.erase = c.erase
  | .sc v => by simp [Cell.erase]
  | .sl o sz a row => by simp [Cell.erase, eraseL_twice row]
  | .bx o a row => by simp [Cell.erase, eraseL_twice row]
  | .dead => by simp [Cell.erase]
theorem eraseL_twice : ∀ l : List (Cell α), eraseL (eraseL l) = eraseL l
  | [] => rfl
  | c :: l => by simp [eraseL, erase_twice c, eraseL_twice l]
end
mutual
theorem allOwn_erase' : ∀ c : Cell α, c.erase.allOwn = c.allOwn
  | .sc v => by simp [Cell.erase, Cell.allOwn]
  | .sl o sz g row => by simp [Cell.erase, Cell.allOwn, allOwnL_erase' row]
  | .bx o g row => by simp [Cell.erase, Cell.allOwn, allOwnL_erase' row]
  | .dead => by simp [Cell.erase, Cell.allOwn]
theorem allOwnL_erase' : ∀ l : List (Cell α), allOwnL (eraseL l) = allOwnL l
  | [] => rfl
  | c :: l => by simp [eraseL, allOwnL, allOwn_erase' c, allOwnL_erase' l]
end
theorem lendEff_erase (t r : Nat) (p : List Nat) (y : Cell α) (v R : SV α) : lendEff t r p y.erase v.erase R.erase = (lendEff t r p y v R).map Eff.erase := by
  obtain ⟨k, cs⟩ := R
  unfold lendEff
  cases cs with
  | nil => rfl
  | cons x l =>
    simp only [SV.erase, List.map_cons]
    cases x with
    | c z =>
      simp only [SC.erase, isOwn_erase, row_erase, List.length_map]
      split
      · simp only [Option.map_some, Eff.erase, eraseCh, List.map_cons, List.map_nil, setP_erase, withRow_erase]
        rfl
      · rfl
    | _ => rfl
theorem effLend_erase (P : Program) (E : Env) (Ω : Orc α) (hΩ : ∀ r, (Ω.dec r).erase = r) (σ : St α) (t f : Nat) (args : List Operand) : effLend P E ΩU σ.erase t f args = (effLend P E Ω σ t f args).map Eff.erase := by
  unfold effLend
  cases P.funcs[f]? with
  | none => rfl
  | some fn =>
    cases args with
    | nil => rfl
    | cons x rest =>
      cases x with
      | tmp s =>
        simp only [get_erase]
        obtain ⟨k, cs, hv⟩ : ∃ k cs, σ.get s = ⟨k, cs⟩ := ⟨_, _, rfl⟩
        have hv2 : (σ.get s).erase = ⟨k, cs.map SC.erase⟩ := by rw [hv]; rfl
        rw [hv2, hv]
        by_cases hk : k = .one
        · simp only [if_pos hk]
          cases cs with
          | nil => rfl
          | cons x l =>
            cases l with
            | cons _ _ => rfl
            | nil =>
              simp only [List.map_cons, List.map_nil, place_erase]
              cases x.place s 0 with
              | none => rfl
              | some rp =>
                obtain ⟨r, p⟩ := rp
                simp only
                have h1 := takeAt_erase σ pend0 r p
                rw [show (pend0 : Pend α).erase = pend0 from rfl] at h1
                rw [h1]
                cases takeAt σ pend0 r p with
                | none => rfl
                | some z =>
                  obtain ⟨y, d⟩ := z
                  simp only [Option.map_some, eraseTk]
                  have h2 : (putAll σ.erase (d.erase).ch.reverse).kill (d.erase).kill = ((putAll σ d.ch.reverse).kill d.kill).erase := by
                    rw [kill_erase, putAll_erase]
                    simp [Pend.erase, eraseCh]
                  rw [h2, argsOf_erase P Ω]
                  cases argsOf P Ω ((putAll σ d.ch.reverse).kill d.kill) fn.params.toList.tail rest with
                  | none => rfl
                  | some l =>
                    simp only [erase_twice]
                    cases E f (one (.c y.erase) :: l) with
                    | none => rfl
                    | some R =>
                      simp only [allOwn_erase']
                      split
                      · have := lendEff_erase t r p y (σ.get r) (Ω.dec R)
                        rw [hΩ] at this
                        exact this
                      · rfl
        · simp only [if_neg hk]; rfl
      | _ => rfl
theorem effCallNil_erase (P : Program) (E : Env) (Ω : Orc α) (hΩ : ∀ r, (Ω.dec r).erase = r) (σ : St α) (t f : Nat) (args : List Operand) : effCallNil P E ΩU σ.erase t f args = (effCallNil P E Ω σ t f args).map Eff.erase := by
  unfold effCallNil
  split
  · next fn rest hf =>
    rw [argsOf_erase P Ω]
    cases argsOf P Ω σ fn.params.toList.tail rest with
    | none => rfl
    | some l =>
      simp only
      cases E f (nilMark :: l) with
      | none => rfl
      | some r =>
        simp only
        split
        · simp [effPut_erase, hΩ, ΩU]
        · rfl
  · rfl
theorem effExtract_erase (σ : St α) (t : Nat) (x : Operand) (i : Nat) : effExtract σ.erase t x i = (effExtract σ t x i).map Eff.erase := by
  unfold effExtract
  split
  · rw [get_erase]
    next s =>
    cases h : σ.get s with
    | mk k cs =>
      simp only [SV.erase]
      cases k with
      | one => rfl
      | agg => rfl
      | tup ks =>
        simp only
        cases ks[i]? with
        | none => rfl
        | some k =>
          simp only [List.length_map]
          split
          · simp only [Option.map_some, effPut_erase, SV.erase, List.map_take, List.map_drop, shareAll_erase]
          · rfl
  · rfl
theorem effNil_erase (σ : St α) (t : Nat) (x : Operand) : effNil σ.erase t x = (effNil σ t x).map Eff.erase := by
  unfold effNil
  split
  · next s =>
    rw [get_erase]
    by_cases hk : (σ.get s).k = .one
    rotate_left
    · rw [if_neg (show ¬ (σ.get s).erase.k = .one from hk), if_neg hk]; rfl
    rw [if_pos (show (σ.get s).erase.k = .one from hk), if_pos hk]
    simp only [SV.erase]
    cases h : (σ.get s).cs with
    | nil => rfl
    | cons x l =>
      cases l with
      | cons y l => cases x <;> first | rfl | (rename_i c; cases c <;> simp [SC.erase, Cell.erase])
      | nil =>
        have : shareAll s 0 [x.erase] = (shareAll s 0 [x]).map SC.erase := (shareAll_erase s [x] 0).symm
        cases x with
        | c c => cases c with
          | bx o a row =>
            show some (effPut t ⟨.one, shareAll s 0 [(SC.c (Cell.bx o a row)).erase]⟩) = some (effPut t (SV.erase ⟨.one, shareAll s 0 [SC.c (Cell.bx o a row)]⟩))
            rw [this]; rfl
          | _ => simp [SC.erase, Cell.erase]
        | view r p =>
          show some (effPut t ⟨.one, shareAll s 0 [(SC.view r p).erase]⟩) = some (effPut t (SV.erase ⟨.one, shareAll s 0 [SC.view r p]⟩))
          rw [this]; rfl
        | ref r p o m =>
          cases m with
          | none =>
            show some (effPut t ⟨.one, shareAll s 0 [(SC.ref r p o none).erase]⟩) = some (effPut t (SV.erase ⟨.one, shareAll s 0 [SC.ref r p o none]⟩))
            rw [this]; rfl
          | some _ => rfl
        | fref a row o =>
          show some (effPut t ⟨.one, shareAll s 0 [(SC.fref a row o).erase]⟩) = some (effPut t (SV.erase ⟨.one, shareAll s 0 [SC.fref a row o]⟩))
          rw [this]; rfl
        | _ => rfl
  · rfl
theorem orElse_erase {a : Option (Eff α)} {b : Option (Eff α)} : orElse (a.map Eff.erase) (b.map Eff.erase) = (orElse a b).map Eff.erase := by cases a <;> rfl

theorem effField_erase (P : Program) (σ : St α) (t ty : Nat) (x : Operand) (f : Nat) : effField P σ.erase t ty x f = (effField P σ t ty x f).map Eff.erase := by
  unfold effField
  cases P.underlying ty with
  | none => cases x <;> rfl
  | some d => cases d with
    | struct fs =>
      cases x with
      | tmp s =>
        simp only [get_erase]
        cases h : σ.get s with
        | mk k cs =>
          simp only [SV.erase]
          cases k with
          | agg =>
            cases fs[f]? with
            | none => rfl
            | some fd =>
              simp only [List.length_map]
              split
              · rw [← shareAll_erase, ← List.map_drop, ← List.map_take]
                exact aggOr_erase ..
              · rfl
          | one => rfl
          | tup l => rfl
      | _ => rfl
    | _ => cases x <;> rfl
/-- The effect of the bare trees is the bare effect. -/
theorem ieff_erase (P : Program) (E : Env) (Ω : Orc α) (hΩ : ∀ r, (Ω.dec r).erase = r) (σ : St α) (o : Oper) : ieff P E ΩU σ.erase o = (ieff P E Ω σ o).map Eff.erase := by
  unfold ieff
  split <;> (try (split <;> first | rfl | skip))
  all_goals first
    | exact effMove_erase ..
    | exact effAssign_erase ..
    | exact effAlloc_erase ..
    | exact effBox_erase ..
    | exact effBuild_erase ..
    | (rw [effBuildSlice_erase (Ω := Ω), effCut_erase (Ω := Ω) (hΩ := hΩ)]; exact orElse_erase)
    | exact effMake_erase ..
    | exact effLoad_erase ..
    | exact effStore_erase ..
    | exact effFieldAddr_erase ..
    | exact effIndexAddr_erase ..
    | (rw [effSlice_erase (Ω := Ω), effSliceArr_erase, effSliceNil_erase (Ω := Ω), effPure_erase, orElse_erase, orElse_erase]; exact orElse_erase)
    | (rw [effPure_erase, effNilCmp_erase]; exact orElse_erase)
    | exact effExtract_erase ..
    | exact effNil_erase ..
    | (rw [effPure_erase, effField_erase]; exact orElse_erase)
    | exact effPure_erase ..
    | skip
  split
  · rw [effLen_erase, effPure_erase]; exact orElse_erase
  · exact effAppend_erase ..
  · exact effCopy_erase ..
  · rw [effCall_erase P E Ω hΩ, effLend_erase P E Ω hΩ, effCallNil_erase P E Ω hΩ, orElse_erase]; exact orElse_erase
  · exact effPure_erase ..
end
end Go.Proofs.Ytnmocjhpbobahaa.L
