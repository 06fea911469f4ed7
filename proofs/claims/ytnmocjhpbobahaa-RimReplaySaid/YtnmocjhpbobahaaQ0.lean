/- L1: the ideal memory: what lies in slots and rows as plain trees; what each operation does to it. M2: what each operation does to the ideal memory ('ieff'). M3: the ideal memory and the machine's: what it means that a tree lies in memory; paths. M4: the state's invariant, and the moves that keep it. -/
import Derived.Orders
import Derived.Deep.LoopGhost
import Derived.Below
set_option linter.unusedVariables false
set_option linter.unusedSimpArgs false
set_option linter.unnecessarySimpa false
namespace Go.Proofs.Ytnmocjhpbobahaa.L
open Go

/-- A cell of memory as a tree: a scalar; a slice's header with what it shows; a pointer to a variable with what it holds. 'o': owned (nobody else leads there). -/
inductive Cell (α : Type) where
  | sc (v : Value)
  | sl (o : Bool) (sz : Nat) (a : α) (row : List (Cell α))
  | bx (o : Bool) (a : α) (row : List (Cell α))
  | dead
  deriving Inhabited

section
variable {α : Type}

mutual
def Cell.erase : Cell α → Cell Unit
  | .sc v => .sc v
  | .sl o sz _ row => .sl o sz () (eraseL row)
  | .bx o _ row => .bx o () (eraseL row)
  | .dead => .dead
def eraseL : List (Cell α) → List (Cell Unit)
  | [] => []
  | c :: l => c.erase :: eraseL l
end
mutual
def Cell.freeze : Cell α → Cell α
  | .sc v => .sc v
  | .sl _ sz a row => .sl false sz a (freezeL row)
  | .bx _ a row => .bx false a (freezeL row)
  | .dead => .dead
def freezeL : List (Cell α) → List (Cell α)
  | [] => []
  | c :: l => c.freeze :: freezeL l
end

def Cell.row : Cell α → List (Cell α)
  | .sl _ _ _ r => r
  | .bx _ _ r => r
  | _ => []
def Cell.withRow : Cell α → List (Cell α) → Cell α
  | .sl o sz a _, r => .sl o sz a r
  | .bx o a _, r => .bx o a r
  | c, _ => c
def Cell.isOwn : Cell α → Bool
  | .sl o _ _ _ => o
  | .bx o _ _ => o
  | _ => false
/-- May be copied as it stands: a scalar, or what is frozen. -/
def Cell.copyable : Cell α → Bool
  | .sc _ => true
  | .sl o _ _ _ => !o
  | .bx o _ _ => !o
  | .dead => false

def Cell.isDead : Cell α → Bool
  | .dead => true
  | _ => false
mutual
/-- Owned through and through: nothing frozen, nothing dead. -/
def Cell.allOwn : Cell α → Bool
  | .sc _ => true
  | .sl o _ _ row => o && allOwnL row
  | .bx o _ row => o && allOwnL row
  | .dead => false
def allOwnL : List (Cell α) → Bool
  | [] => true
  | c :: l => c.allOwn && allOwnL l
end
/-- The cell at a path below an owned cell. -/
def Cell.getC : Cell α → List Nat → Option (Cell α)
  | c, [] => some c
  | c, j :: q => if c.isOwn then match c.row[j]? with
    | some d => d.getC q
    | none => none else none
def Cell.setC : Cell α → List Nat → Cell α → Cell α
  | _, [], y => y
  | c, j :: q, y => match c.row[j]? with
    | some d => c.withRow (c.row.set j (d.setC q y))
    | none => c

/-- A part of a row that is borrowed: a window of the slice at a path; an array there, sliced whole. -/
inductive Part where
  | win (p : List Nat) (lo n : Nat) (full : Bool)
  | arr (p : List Nat) (off n sz : Nat)
  deriving Inhabited
def Part.path : Part → List Nat
  | .win p _ _ _ => p
  | .arr p _ _ _ => p
/-- What lies in a slot. 'cut': a fresh row x; the cells at the places that ws names are headers of parts of what slot r holds. 'view': the value of the cell at a path of another slot; 'win': a slice of it; 'ref': the address of a cell of its row; 'fref': an address in what is frozen. -/
inductive SC (α : Type) where
  | c (x : Cell α)
  | view (r : Nat) (p : List Nat)
  | win (r : Nat) (p : List Nat) (lo n : Nat) (full : Bool)
  | ref (r : Nat) (p : List Nat) (off : Nat) (m : Option (Nat × Nat))
  | fref (a : α) (row : List (Cell α)) (off : Nat)
  | cut (r : Nat) (x : Cell α) (ws : List (Nat × Part × Cell α))
  | dead
  deriving Inhabited

inductive Kd where
  | one | agg | tup (l : List (Option Nat))
  deriving Inhabited, DecidableEq

structure SV (α : Type) where
  k : Kd
  cs : List (SC α)
  deriving Inhabited

def SC.erase : SC α → SC Unit
  | .c x => .c x.erase
  | .view r p => .view r p
  | .win r p lo n f => .win r p lo n f
  | .ref r p off m => .ref r p off m
  | .fref _ row off => .fref () (eraseL row) off
  | .cut r x ws => .cut r x.erase (ws.map fun e => (e.1, e.2.1, e.2.2.erase))
  | .dead => .dead
def SV.erase (v : SV α) : SV Unit := ⟨v.k, v.cs.map SC.erase⟩

abbrev St (α : Type) := List (Nat × SV α)

def SV.dead : SV α := ⟨.one, [.dead]⟩
def St.get (σ : St α) (s : Nat) : SV α := match σ.lookup s with
  | some v => v
  | none => .dead
def St.erase (σ : St α) : St Unit := σ.map fun x => (x.1, x.2.erase)
/-- Slots in rising order. -/
def St.put : St α → Nat → SV α → St α
  | [], s, v => [(s, v)]
  | (t, u) :: l, s, v => if s = t then (s, v) :: l else if s < t then (s, v) :: (t, u) :: l else (t, u) :: St.put l s v

def SC.cell : SC α → Cell α
  | .c x => x
  | .cut _ x _ => x
  | _ => .dead
def SV.getP (v : SV α) : List Nat → Option (Cell α)
  | [] => none
  | j :: q => match v.cs[j]? with
    | some (.c x) => x.getC q
    | _ => none
def SV.setP (v : SV α) : List Nat → Cell α → SV α
  | [], _ => v
  | j :: q, y => match v.cs[j]? with
    | some (.c x) => ⟨v.k, v.cs.set j (.c (x.setC q y))⟩
    | _ => v

def SC.dies (r : Nat) (p : List Nat) : SC α → Bool
  | .view r' q => r' == r && p.isPrefixOf q
  | .win r' q _ _ _ => r' == r && p.isPrefixOf q
  | .ref r' q _ _ => r' == r && p.isPrefixOf q
  | .cut r' _ ws => r' == r && ws.any fun e => p.isPrefixOf e.2.1.path
  | _ => false
def SC.kill (ks : List (Nat × List Nat)) (x : SC α) : SC α := if ks.any (fun k => x.dies k.1 k.2) then .dead else x
def SV.kill (ks : List (Nat × List Nat)) (v : SV α) : SV α := ⟨v.k, v.cs.map (SC.kill ks)⟩
def St.kill (σ : St α) (ks : List (Nat × List Nat)) : St α := match ks with
  | [] => σ
  | _ => σ.map fun x => (x.1, x.2.kill ks)

/-- An effect: what is taken out of slots, which views die, what is laid. -/
structure Eff (α : Type) where
  pre : List (Nat × SV α)
  kill : List (Nat × List Nat)
  post : List (Nat × SV α)
def eraseCh (l : List (Nat × SV α)) : List (Nat × SV Unit) := l.map fun x => (x.1, x.2.erase)
def Eff.erase (e : Eff α) : Eff Unit := ⟨eraseCh e.pre, e.kill, eraseCh e.post⟩
def putAll : St α → List (Nat × SV α) → St α
  | σ, [] => σ
  | σ, (s, v) :: l => putAll (σ.put s v) l
def St.app (σ : St α) (e : Eff α) : St α := putAll ((putAll σ e.pre).kill e.kill) e.post

/-- What the run alone can tell: the address of a new row (or header); that of none; a call's result with its addresses. -/
structure Orc (α : Type) where
  a : α
  nil : α
  dec : SV Unit → SV α

/-! ### scalars -/
def isSc : Value → Bool
  | .bool _ | .int _ _ | .string _ | .pointer none | .nilFunc | .nilIface | .slice none 0 0 => true
  | .iface _ v => isSc v
  | _ => false
def SC.scal : SC α → Option Value
  | .c (.sc v) => some v
  | _ => none
def scals : List (SC α) → Option (List Value)
  | [] => some []
  | x :: l => match x.scal, scals l with
    | some v, some vs => some (v :: vs)
    | _, _ => none
def SV.val (v : SV α) : Option Value := match v.k, scals v.cs with
  | .one, some [x] => some x
  | .agg, some vs => some (.agg vs.toArray)
  | .tup [], some [] => some (.tuple #[])
  | _, _ => none
def ofVal : Value → Option (SV α)
  | .agg cs => if cs.toList.all isSc then some ⟨.agg, cs.toList.map fun v => .c (.sc v)⟩ else none
  | v => if isSc v then some ⟨.one, [.c (.sc v)]⟩ else none

/-- The run of what reads neither memory nor the tape. -/
def pv {β : Type} (P : Program) : Sem β → Option β
  | .pure b => some b
  | .program k => pv P (k P)
  | .mark _ k => pv P k
  | _ => none

/-! ### types -/
def szOf (P : Program) (t : TypeId) : Nat := match P.underlying t with
  | some (.slice e) => P.cellsOf e
  | _ => 1
def szs (P : Program) : Nat → TypeId → List Nat
  | 0, _ => []
  | d + 1, t => match P.underlying t with
    | some (.struct fs) => fs.toList.flatMap fun f => szs P d f.type
    | some (.array n e) => (List.replicate n (szs P d e)).flatten
    | some (.slice e) => [P.cellsOf e]
    | _ => [1]
def isAggB (P : Program) (t : TypeId) : Bool := match P.underlying t with
  | some (.struct _) | some (.array _ _) => true
  | _ => false

def cellOfConst (nil : α) (sz : Nat) : Value → Option (Cell α)
  | .slice none 0 0 => if 0 < sz then some (.sl true sz nil []) else none
  | v => if isSc v then some (.sc v) else none
def cellsOfConst (nil : α) : List Nat → List Value → Option (List (Cell α))
  | _, [] => some []
  | szl, v :: vs => match cellOfConst nil (szl.headD 1) v, cellsOfConst nil szl.tail vs with
    | some c, some cs => some (c :: cs)
    | _, _ => none
def zeroCellsOf (P : Program) (nil : α) (t : TypeId) : Option (List (Cell α)) := match P.info? t with
  | some i => match i.zero with
    | some v => cellsOfConst nil (szs P 8 t) v.cells.toList
    | none => none
  | none => none

def constSV (P : Program) (nil : α) (t : TypeId) : Value → Option (SV α)
  | .agg cs => match cellsOfConst nil (szs P 8 t) cs.toList with
    | some l => some ⟨.agg, l.map .c⟩
    | none => none
  | v => match cellOfConst nil (szOf P t) v with
    | some c => some ⟨.one, [.c c]⟩
    | none => none

/-- An operand, and the slot that it lies in. -/
def opd (P : Program) (Ω : Orc α) (σ : St α) (t : TypeId) : Operand → Option (SV α)
  | .tmp s => some (σ.get s)
  | .const v => constSV P Ω.nil t v
  | _ => none
def slotOf : Operand → Option Nat
  | .tmp s => some s
  | _ => none
def valOf (σ : St α) : Operand → Option Value
  | .tmp s => (σ.get s).val
  | .const v => match v with
    | .agg cs => if cs.toList.all isSc then some v else none
    | v => if isSc v then some v else none
  | _ => none
def intOf? (σ : St α) (x : Operand) : Option Int := match valOf σ x with
  | some (.int _ n) => some n
  | _ => none
def natOf? (σ : St α) (x : Operand) : Option Nat := match intOf? σ x with
  | some n => if 0 ≤ n then some n.toNat else none
  | none => none

/-! ### taking out -/
def ovGet (σ : St α) (ch : List (Nat × SV α)) (r : Nat) : SV α := match ch.lookup r with
  | some v => v
  | none => σ.get r
/-- Where an owned cell that is named by what lies in slot s at place i lies. -/
def SC.place (s i : Nat) : SC α → Option (Nat × List Nat)
  | .c x => if x.isOwn then some (s, [i]) else none
  | .view r p => some (r, p)
  | _ => none
/-- Underway: what has been taken out (the latest first), what dies of it. -/
structure Pend (α : Type) where
  ch : List (Nat × SV α)
  kill : List (Nat × List Nat)
def takeAt (σ : St α) (d : Pend α) (r : Nat) (p : List Nat) : Option (Cell α × Pend α) :=
  match (ovGet σ d.ch r).getP p with
  | some y => if y.isOwn then some (y, ⟨(r, (ovGet σ d.ch r).setP p .dead) :: d.ch, (r, p) :: d.kill⟩) else none
  | none => none
def takeSC (σ : St α) (d : Pend α) (s i : Nat) (x : SC α) : Option (Cell α × Pend α) :=
  match x.place s i with
  | some (r, p) => takeAt σ d r p
  | none => match x with
    | .c y => if y.copyable then some (y, d) else none
    | _ => none
def takeAll (σ : St α) (s : Nat) : Pend α → Nat → List (SC α) → Option (List (Cell α) × Pend α)
  | d, _, [] => some ([], d)
  | d, i, x :: l => match takeSC σ d s i x with
    | some (y, d') => match takeAll σ s d' (i + 1) l with
      | some (ys, d'') => some (y :: ys, d'')
      | none => none
    | none => none

def share (s i : Nat) : SC α → SC α
  | .c x => if x.isOwn then .view s [i] else .c x
  | .cut _ _ _ => .dead
  | x => x
def shareAll (s : Nat) : Nat → List (SC α) → List (SC α)
  | _, [] => []
  | i, x :: l => share s i x :: shareAll s (i + 1) l

/-- Out of a slot; or a constant's cells. -/
def takeFrom (σ : St α) (so : Option Nat) (d : Pend α) (cs : List (SC α)) : Option (List (Cell α) × Pend α) := match so with
  | some s => takeAll σ s d 0 cs
  | none => some (cs.map SC.cell, d)
def shareFrom (so : Option Nat) (cs : List (SC α)) : List (SC α) := match so with
  | some s => shareAll s 0 cs
  | none => cs

/-- An address: into an owned row, or into a frozen one. -/
inductive Ad (α : Type) where
  | own (r : Nat) (p : List Nat) (off : Nat)
  | frz (a : α) (row : List (Cell α)) (off : Nat)
def adOf (σ : St α) : Operand → Option (Ad α)
  | .tmp s => if (σ.get s).k = .one then match (σ.get s).cs with
    | [.c (.bx true _ _)] => some (.own s [0] 0)
    | [.c (.bx false a row)] => some (.frz a row 0)
    | [.view r p] => match (σ.get r).getP p with
      | some (.bx true _ _) => some (.own r p 0)
      | _ => none
    | [.ref r p off none] => some (.own r p off)
    | [.fref a row off] => some (.frz a row off)
    | _ => none else none
  | _ => none
def rowAtP (σ : St α) (r : Nat) (p : List Nat) : Option (List (Cell α)) := match (σ.get r).getP p with
  | some y => if y.isOwn then some y.row else none
  | none => none

/-- What is read at (r, p) from place off on: what is owned there is seen through the path. -/
def seen (r : Nat) (p : List Nat) : Nat → List (Cell α) → Option (List (SC α))
  | _, [] => some []
  | off, x :: l => match (if x.isOwn then some (SC.view r (p ++ [off])) else if x.copyable then some (.c x) else none), seen r p (off + 1) l with
    | some y, some ys => some (y :: ys)
    | _, _ => none

/-- A slice: of an owned row (place, window), or of a frozen one. -/
inductive SD (α : Type) where
  | own (r : Nat) (p : List Nat) (sz lo n : Nat) (whole full : Bool) (row : List (Cell α))
  | frz (sz : Nat) (a : α) (row : List (Cell α))
def sdOf (σ : St α) : Operand → Option (SD α)
  | .tmp s => if (σ.get s).k = .one then match (σ.get s).cs with
    | [.c (.sl true sz _ row)] => some (.own s [0] sz 0 row.length true false row)
    | [.c (.sl false sz a row)] => some (.frz sz a row)
    | [.view r p] => match (σ.get r).getP p with
      | some (.sl true sz _ row) => some (.own r p sz 0 row.length true false row)
      | _ => none
    | [.win r p lo n full] => match (σ.get r).getP p with
      | some (.sl true sz _ row) => if lo + n ≤ row.length then some (.own r p sz lo n false full ((row.drop lo).take n)) else none
      | _ => none
    | _ => none else none
  | _ => none
def SD.sz : SD α → Nat
  | .own _ _ sz _ _ _ _ _ => sz
  | .frz sz _ _ => sz
def SD.row : SD α → List (Cell α)
  | .own _ _ _ _ _ _ _ row => row
  | .frz _ _ row => row

end
end Go.Proofs.Ytnmocjhpbobahaa.L
namespace Go.Proofs.Ytnmocjhpbobahaa.L
open Go

section
variable {α : Type}

def pureOp : Op → Bool
  | .pick .. | .binOp .. | .unOp .. | .convert .. | .field .. | .index .. | .build .. | .slice .. | .makeInterface .. => true
  | .call { callee := .builtin b, .. } => match b with
    | .min | .max | .len | .cap => true
    | _ => false
  | _ => false

def one (x : SC α) : SV α := ⟨.one, [x]⟩
def Pend.fin (d : Pend α) (t : Nat) (v : SV α) : Eff α := ⟨d.ch.reverse ++ [(t, v)], (t, []) :: d.kill, []⟩
def effPut (t : Nat) (v : SV α) : Eff α := ⟨[(t, v)], [(t, [])], []⟩
def pend0 : Pend α := ⟨[], []⟩

/-- Does a slot own anything? -/
def SV.owns (v : SV α) : Bool := v.cs.any fun | .c x => x.isOwn | _ => false
def Kd.flat : Kd → Bool
  | .one | .agg => true
  | _ => false

def setRun {β : Type} (row : List β) (off : Nat) : List β → List β
  | [] => row
  | y :: ys => setRun (row.set off y) (off + 1) ys

/-- The parts of a build, over what is there. -/
def fillParts {β : Type} (place : Nat → Option (Nat × Nat)) : List β → List (Nat × List β) → Option (List β)
  | l, [] => some l
  | l, (i, xs) :: rest => match place i with
    | some (off, size) => if xs.length = size ∧ off + size ≤ l.length then fillParts place (setRun l off xs) rest else none
    | none => none

def SC.live : SC α → Bool
  | .c y => match y with
    | .dead => false
    | _ => true
  | .dead => false
  | .cut _ _ _ => false
  | _ => true
def SV.okPart (v : SV α) : Bool := v.k.flat && (v.k != .one || v.cs.length == 1) && v.cs.all SC.live
/-- All parts' types have a row. -/
def infosOk (P : Program) (t : TypeId) : Bool := match P.underlying t with
  | some (.struct fs) => fs.toList.all fun f => (P.info? f.type).isSome
  | some (.array _ e) => (P.info? e).isSome
  | _ => false
def partsOf (P : Program) (Ω : Orc α) (σ : St α) (ty : Nat → TypeId) : List (Nat × Operand) → Option (List (Nat × Option Nat × List (SC α)))
  | [] => some []
  | (i, x) :: rest => match opd P Ω σ (ty i) x, partsOf P Ω σ ty rest with
    | some v, some l => if v.okPart then some ((i, slotOf x, v.cs) :: l) else none
    | _, _ => none
def takeParts (σ : St α) : Pend α → List (Nat × Option Nat × List (SC α)) → Option (List (Nat × List (Cell α)) × Pend α)
  | d, [] => some ([], d)
  | d, (i, s, cs) :: rest => match takeFrom σ s d cs with
    | some (ys, d') => match takeParts σ d' rest with
      | some (l, d'') => some ((i, ys) :: l, d'')
      | none => none
    | none => none
/-- Parts that stay where they lie (a struct's value): what is owned in a slot is seen through it. -/
def seeParts : List (Nat × Option Nat × List (SC α)) → List (Nat × List (SC α))
  | [] => []
  | (i, s, cs) :: rest => (i, shareFrom s cs) :: seeParts rest

def fieldTy (P : Program) (t : TypeId) (i : Nat) : TypeId := match P.underlying t with
  | some (.struct fs) => match fs[i]? with
    | some f => f.type
    | none => 0
  | some (.array _ e) => e
  | some (.slice e) => e
  | _ => 0
def fieldPl (P : Program) (t : TypeId) (i : Nat) : Option (Nat × Nat) := match P.underlying t with
  | some (.struct fs) => match fs[i]? with
    | some f => some (f.offset, P.cellsOf f.type)
    | none => none
  | some (.array _ e) => some (i * P.cellsOf e, P.cellsOf e)
  | some (.slice e) => some (i * P.cellsOf e, P.cellsOf e)
  | _ => none

/-- An argument of a call, frozen for the call. -/
def argSC0 (σ : St α) : SC α → Option (SC Unit)
  | .c x => match x with
    | .dead => none
    | x => some (.c x.erase.freeze)
  | .view r p => match (σ.get r).getP p with
    | some y => if y.isOwn then some (.c y.erase.freeze) else none
    | none => none
  | .win r p lo n _ => match (σ.get r).getP p with
    | some (.sl true sz _ row) => if lo + n ≤ row.length then some (.c (.sl false sz () (freezeL (eraseL ((row.drop lo).take n))))) else none
    | _ => none
  | .ref r p off (some x) => match (σ.get r).getP p with
    | some y => if y.isOwn ∧ off + x.1 * x.2 ≤ y.row.length ∧ 0 < x.2 then some (.c (.sl false x.2 () (freezeL (eraseL ((y.row.drop off).take (x.1 * x.2)))))) else none
    | none => none
  | _ => none
def Part.sc (r : Nat) : Part → SC α
  | .win p lo n f => .win r p lo n f
  | .arr p off n sz => .ref r p off (some (n, sz))
def cutRow (σ : St α) (r : Nat) : List (Cell Unit) → List (Nat × Part × Cell α) → Option (List (Cell Unit))
  | row, [] => some row
  | row, e :: ws => match argSC0 σ (e.2.1.sc r) with
    | some (.c c) => cutRow σ r (row.set e.1 c) ws
    | _ => none
def argSC (σ : St α) : SC α → Option (SC Unit)
  | .cut r x ws => match x with
    | .sl true sz _ row => match cutRow σ r (freezeL (eraseL row)) ws with
      | some row' => some (.c (.sl false sz () row'))
      | none => none
    | _ => none
  | .c x => argSC0 σ (.c x)
  | .view r p => argSC0 σ (.view r p)
  | .win r p lo n f => argSC0 σ (.win r p lo n f)
  | .ref r p o m => argSC0 σ (.ref r p o m)
  | .fref a row o => argSC0 σ (.fref a row o)
  | .dead => argSC0 σ .dead
def argSCs (σ : St α) : List (SC α) → Option (List (SC Unit))
  | [] => some []
  | x :: l => match argSC σ x, argSCs σ l with
    | some y, some ys => some (y :: ys)
    | _, _ => none
def argOf (P : Program) (Ω : Orc α) (σ : St α) (t : TypeId) (x : Operand) : Option (SV Unit) := match opd P Ω σ t x with
  | some v => match argSCs σ v.cs with
    | some l => if v.k.flat then some ⟨v.k, l⟩ else none
    | none => none
  | none => none
def argsOf (P : Program) (Ω : Orc α) (σ : St α) : List TypeId → List Operand → Option (List (SV Unit))
  | _, [] => some []
  | ts, x :: l => match argOf P Ω σ (ts.headD 0) x, argsOf P Ω σ ts.tail l with
    | some y, some ys => some (y :: ys)
    | _, _ => none

def sliceSC (Ω : Orc α) (d : SD α) (l h : Nat) (full : Bool) : SC α := match d with
  | .own r p sz lo _ _ _ _ => .win r p (lo + l * sz) ((h - l) * sz) full
  | .frz sz _ row => .c (.sl false sz Ω.a ((row.drop (l * sz)).take ((h - l) * sz)))

def SV.ownSl (v : SV α) : Bool := match v.cs with
  | [x] => match x with
    | .c c => match c with
      | .sl o _ _ _ => o
      | _ => false
    | _ => false
  | _ => false
/-- What is appended: out of a row that is used up, or copied. -/
def newsOf (σ : St α) (sz : Nat) (x : Operand) : Option (List (Cell α) × Pend α) := match sdOf σ x with
  | some sd => if sd.sz = sz then match x with
    | .tmp s => if (σ.get s).ownSl then (takeAt σ pend0 s [0]).map fun z => (z.1.row, z.2) else
      if sd.row.all Cell.copyable then some (sd.row, pend0) else none
    | _ => none else none
  | none => none

def effPure (P : Program) (σ : St α) (t : Nat) (o : Oper) : Option (Eff α) :=
  if pureOp o.op && o.op.operands.toList.all (fun x => (valOf σ x).isSome) then
    match pv P (execOp (fun x => (valOf σ x).getD undef) o) with
    | some (.value v) => (ofVal v).map (effPut t)
    | _ => none
  else none

/-- A slice of a nil that was handed on as a scalar: nil again, as a row. -/
def effSliceNil (P : Program) (Ω : Orc α) (σ : St α) (t ty : Nat) (o : Oper) : Option (Eff α) :=
  match P.underlying ty with
  | some (.slice e) => if 0 < P.cellsOf e ∧ (pureOp o.op && o.op.operands.toList.all (fun x => (valOf σ x).isSome)) = true then
      match pv P (execOp (fun x => (valOf σ x).getD undef) o) with
      | some (.value (.slice none 0 0)) => some (effPut t (one (.c (.sl true (P.cellsOf e) Ω.nil []))))
      | _ => none
    else none
  | _ => none

def effMove (P : Program) (Ω : Orc α) (σ : St α) (t ty : Nat) (x : Operand) : Option (Eff α) :=
  match opd P Ω σ ty x with
  | some v => some (effPut t ⟨v.k, shareFrom (slotOf x) v.cs⟩)
  | none => none

/-- An assignment takes what is owned in a slot itself; the rest is copied as it stands. -/
def topSC (σ : St α) (s t : Nat) (d : Pend α) (i : Nat) : SC α → Option (SC α × Pend α)
  | .c y => if y.isOwn then (takeAt σ d s [i]).map (fun z => (SC.c z.1, z.2)) else some (.c y, d)
  | .view r p => if p.length = 1 then (if r = t then none else (takeAt σ d r p).map (fun z => (SC.c z.1, z.2))) else some (.view r p, d)
  | .win r p lo n f => some (.win r p lo n f, d)
  | .ref r p o m => some (.ref r p o m, d)
  | .fref a row o => some (.fref a row o, d)
  | .cut _ _ _ => none
  | .dead => some (.dead, d)
def takeTop (σ : St α) (s t : Nat) : Pend α → Nat → List (SC α) → Option (List (SC α) × Pend α)
  | d, _, [] => some ([], d)
  | d, i, x :: l => match topSC σ s t d i x with
    | some (y, d') => match takeTop σ s t d' (i + 1) l with
      | some (ys, d'') => some (y :: ys, d'')
      | none => none
    | none => none
inductive Top where
  | view (r : Nat)
  | win (r lo n : Nat)
  | other
def scTop : SC α → Top
  | .view r p => if p = [0] then .view r else .other
  | .win r p lo n _ => if p = [0] then .win r lo n else .other
  | _ => .other
def SV.top (v : SV α) : Top := match v.k with
  | .one => match v.cs with
    | [x] => scTop x
    | _ => .other
  | _ => .other

def effAssign (P : Program) (Ω : Orc α) (σ : St α) (t ty : Nat) (x : Operand) : Option (Eff α) :=
  match x with
  | .tmp s => if s = t then none else
    match (σ.get s).top with
    | .view r => if r = t then (if (σ.get r).k = .one ∧ (σ.get r).cs.length = 1 then some ⟨[], [], []⟩ else none) else
      match takeAt σ pend0 r [0] with
      | some (y, d) => some ⟨d.ch, (t, []) :: d.kill, (t, one (.c y)) :: (if (σ.get r).k = .one ∧ (σ.get r).cs.length = 1 ∧ r ≠ s then [(r, one (.view t [0]))] else [])⟩
      | none => none
    | .win r lo n => if r = t then match (σ.get r).getP [0] with
      | some (.sl true sz _ row) => if (σ.get r).k = .one ∧ (σ.get r).cs.length = 1 ∧ lo + n ≤ row.length then
          match takeAt σ pend0 r [0] with
          | some (_, d) => some ⟨d.ch, (t, []) :: d.kill, [(t, one (.c (.sl true sz Ω.a ((row.drop lo).take n))))]⟩
          | none => none else none
      | _ => none else some (effPut t (σ.get s))
    | .other => match takeTop σ s t pend0 0 (σ.get s).cs with
      | some (l, d) => some (d.fin t ⟨(σ.get s).k, l⟩)
      | none => none
  | x => match opd P Ω σ ty x with
    | some v => some (effPut t v)
    | none => none

def effAlloc (P : Program) (Ω : Orc α) (t e : Nat) : Option (Eff α) :=
  match zeroCellsOf P Ω.nil e with
  | some l => some (effPut t (one (.c (.bx true Ω.a l))))
  | none => none

def effBox (P : Program) (Ω : Orc α) (σ : St α) (t e : Nat) (x : Operand) : Option (Eff α) :=
  match opd P Ω σ e x with
  | some v => if v.k.flat then match takeFrom σ (slotOf x) pend0 v.cs with
    | some (l, d) => if v.k = .one → l.length = 1 then some (d.fin t (one (.c (.bx true Ω.a l)))) else none
    | none => none else none
  | none => none

def effBuild (P : Program) (Ω : Orc α) (σ : St α) (t ty : Nat) (parts : List (Nat × Operand)) : Option (Eff α) :=
  if infosOk P ty then match zeroCellsOf P Ω.nil ty, partsOf P Ω σ (fieldTy P ty) parts with
    | some z, some ps => match fillParts (fieldPl P ty) (z.map SC.c) (seeParts ps) with
      | some l => some (effPut t ⟨.agg, l⟩)
      | none => none
    | _, _ => none
  else none

def effBuildSlice (P : Program) (Ω : Orc α) (σ : St α) (t ty len : Nat) (parts : List (Nat × Operand)) : Option (Eff α) :=
  match P.underlying ty with
  | some (.slice e) =>
    if len * P.cellsOf e ≤ 16777216 ∧ 0 < P.cellsOf e then
    match zeroCellsOf P Ω.nil e, partsOf P Ω σ (fieldTy P ty) parts with
    | some z, some ps => match takeParts σ pend0 ps with
      | some (l, d) => match fillParts (fieldPl P ty) (List.replicate len z).flatten l with
        | some row => if z.length = P.cellsOf e then some (d.fin t (one (.c (.sl true (P.cellsOf e) Ω.a row)))) else none
        | none => none
      | none => none
    | _, _ => none
    else none
  | _ => none

/-- A row of which some parts are windows of what slot r holds: each part's root and what it is. -/
def cutOf : Nat × Option Nat × List (SC α) → Option (Nat × Part)
  | (_, _, [.win r p lo n f]) => some (r, .win p lo n f)
  | (_, _, [.ref r p off (some z)]) => some (r, .arr p off z.1 z.2)
  | _ => none
def stripCut (x : Nat × Option Nat × List (SC α)) : Nat × Option Nat × List (SC α) := match cutOf x with
  | some _ => (x.1, none, [.c .dead])
  | none => x
/-- A header's length. -/
def hdLen (σ : St α) (r : Nat) : Part → Option Nat
  | .win p _ n _ => match (σ.get r).getP p with
    | some (.sl true sz _ _) => some (n / sz)
    | _ => none
  | .arr _ _ n _ => some n
def cutWs (σ : St α) (r : Nat) : List (Nat × Option Nat × List (SC α)) → Option (List (Nat × Part × Nat))
  | [] => some []
  | x :: l => match cutOf x with
    | none => cutWs σ r l
    | some (r', q) => if r' = r then match hdLen σ r q, cutWs σ r l with
      | some n, some ws => some ((x.1, q, n) :: ws)
      | _, _ => none else none
def cutRoot (l : List (Nat × Option Nat × List (SC α))) : Option Nat := match l.filterMap cutOf with
  | x :: _ => some x.1
  | [] => none
/-- A header as a cell (what it shows is not told). -/
def hdU (n : Nat) : SC Unit := .c (.sl false 1 () (List.replicate n .dead))
def putHd : List (Nat × Part × Nat) → List (SC α) → List (Nat × Part × Cell α)
  | e :: ws, x :: hs => (e.1, e.2.1, x.cell) :: putHd ws hs
  | _, _ => []
def distinct : List Nat → Bool
  | [] => true
  | x :: l => !l.contains x && distinct l
def effCut (P : Program) (Ω : Orc α) (σ : St α) (t ty len : Nat) (parts : List (Nat × Operand)) : Option (Eff α) :=
  match P.underlying ty with
  | some (.slice e) =>
    if len * P.cellsOf e ≤ 16777216 ∧ P.cellsOf e = 1 then
    match zeroCellsOf P Ω.nil e, partsOf P Ω σ (fieldTy P ty) parts with
    | some z, some ps => match cutRoot ps with
      | some r => match cutWs σ r ps, takeParts σ pend0 (ps.map stripCut) with
        | some ws, some (l, d) => match fillParts (fieldPl P ty) (List.replicate len z).flatten l with
          | some row => if z.length = P.cellsOf e ∧ r ≠ t ∧ d.ch.all (·.1 != r) ∧ d.kill.all (·.1 != r) ∧ distinct (parts.map (·.1)) then
              some (d.fin t (one (.cut r (.sl true (P.cellsOf e) Ω.a row) (putHd ws (Ω.dec ⟨.one, ws.map fun e => hdU e.2.2⟩).cs)))) else none
          | none => none
        | _, _ => none
      | none => none
    | _, _ => none
    else none
  | _ => none

def effMake (P : Program) (Ω : Orc α) (σ : St α) (t ty : Nat) (x y : Operand) : Option (Eff α) :=
  match P.underlying ty, natOf? σ x, natOf? σ y with
  | some (.slice e), some n, some c => match zeroCellsOf P Ω.nil e with
    | some z => if z.length = P.cellsOf e ∧ 0 < P.cellsOf e ∧ n ≤ c ∧ c ≤ 4611686018427387904 ∧ P.bytesOf e * c ≤ 281474976710656 then some (effPut t (one (.c (.sl true (P.cellsOf e) Ω.a (List.replicate n z).flatten)))) else none
    | none => none
  | _, _, _ => none

def aggOr (P : Program) (ty t : Nat) (l : List (SC α)) : Option (Eff α) :=
  if isAggB P ty then some (effPut t ⟨.agg, l⟩) else if P.cellsOf ty = 1 ∧ (P.underlying ty).isSome then some (effPut t ⟨.one, l⟩) else none

def effLoad (P : Program) (σ : St α) (t ty : Nat) (x : Operand) : Option (Eff α) :=
  match adOf σ x with
  | some (.own r p off) => match rowAtP σ r p with
    | some row => if off + P.cellsOf ty ≤ row.length then match seen r p off ((row.drop off).take (P.cellsOf ty)) with
      | some l => aggOr P ty t l
      | none => none else none
    | none => none
  | some (.frz _ row off) => if off + P.cellsOf ty ≤ row.length ∧ row.all Cell.copyable then aggOr P ty t (((row.drop off).take (P.cellsOf ty)).map .c) else none
  | none => none

def effStore (P : Program) (Ω : Orc α) (σ : St α) (ty : Nat) (x y : Operand) : Option (Eff α) :=
  match adOf σ x, opd P Ω σ ty y with
  | some (.own r p off), some v => match takeFrom σ (slotOf y) pend0 v.cs with
    | some (l, d) => if l.length = P.cellsOf ty ∧ 0 < P.cellsOf ty ∧ v.okPart then match (ovGet σ d.ch r).getP p with
      | some c => if c.isOwn ∧ off + l.length ≤ c.row.length then
          some ⟨d.ch.reverse ++ [(r, (ovGet σ d.ch r).setP p (c.withRow (setRun c.row off l)))], (List.range l.length).map (fun j => (r, p ++ [off + j])) ++ d.kill, []⟩ else none
      | none => none else none
    | none => none
  | _, _ => none

def effFieldAddr (P : Program) (σ : St α) (t ty : Nat) (x : Operand) (f : Nat) : Option (Eff α) :=
  match P.underlying ty, adOf σ x with
  | some (.struct fs), some ad => match fs[f]? with
    | some fd => if P.cellsOf fd.type = 0 then none else match ad with
      | .own r p off => some (effPut t (one (.ref r p (off + fd.offset) none)))
      | .frz a row off => some (effPut t (one (.fref a row (off + fd.offset))))
    | none => none
  | _, _ => none

def effIndexAddr (P : Program) (σ : St α) (t ty : Nat) (x y : Operand) : Option (Eff α) :=
  match P.underlying ty, intOf? σ y with
  | some (.slice e), some i => match sdOf σ x with
    | some d => if d.sz = P.cellsOf e ∧ 0 < d.sz then (if 0 ≤ i ∧ i.toNat * d.sz < d.row.length then match d with
      | .own r p _ lo _ _ _ _ => some (effPut t (one (.ref r p (lo + i.toNat * d.sz) none)))
      | .frz _ a row => some (effPut t (one (.fref a row (i.toNat * d.sz)))) else none) else none
    | none => none
  | some (.array n e), some i => match adOf σ x with
    | some ad => if (0 ≤ i ∧ i < n) ∧ 0 < P.cellsOf e then match ad with
      | .own r p off => some (effPut t (one (.ref r p (off + i.toNat * P.cellsOf e) none)))
      | .frz a row off => some (effPut t (one (.fref a row (off + i.toNat * P.cellsOf e)))) else none
    | none => none
  | _, _ => none

def bound (σ : St α) (dflt : Nat) : Option Operand → Option Nat
  | some y => natOf? σ y
  | none => some dflt
def effSlice (P : Program) (Ω : Orc α) (σ : St α) (t ty : Nat) (x : Operand) (lo hi mx : Option Operand) : Option (Eff α) :=
  match P.underlying ty, sdOf σ x with
  | some (.slice e), some d => if d.sz = P.cellsOf e ∧ 0 < d.sz ∧ (mx.isSome → hi.isSome) then
      match bound σ (d.row.length / d.sz) hi, bound σ 0 lo, bound σ (d.row.length / d.sz) mx with
      | some h, some l, some m => if l ≤ h ∧ h ≤ m ∧ m ≤ d.row.length / d.sz then some (effPut t (one (sliceSC Ω d l h (mx.isSome && m == h)))) else none
      | _, _, _ => none else none
  | _, _ => none

/-- A slice of all of an array. -/
def effSliceArr (P : Program) (σ : St α) (t ty : Nat) (x : Operand) (lo hi mx : Option Operand) : Option (Eff α) :=
  match P.underlying ty, adOf σ x with
  | some (.array n e), some (.own r p off) => if lo.isNone ∧ hi.isNone ∧ mx.isNone ∧ 0 < n ∧ 0 < P.cellsOf e ∧ (P.info? e).isSome then some (effPut t (one (.ref r p off (some (n, P.cellsOf e))))) else none
  | _, _ => none

/-- A slice that shows something is not nil. -/
def effNilCmp (P : Program) (σ : St α) (t : Nat) (op : BinOp) (ty : Nat) (x y : Operand) : Option (Eff α) :=
  match P.underlying ty, y with
  | some (.slice _), .const (.slice none 0 0) => match sdOf σ x with
    | some d => if 0 < d.row.length then match op with
      | .eql => some (effPut t (one (.c (.sc (.bool false)))))
      | .neq => some (effPut t (one (.c (.sc (.bool true)))))
      | _ => none else none
    | none => none
  | _, _ => none

def effLen (P : Program) (σ : St α) (t : Nat) (args : List Operand) (tys : List TypeId) : Option (Eff α) :=
  match args, tys with
  | [x], [ty] => match P.underlying ty, sdOf σ x with
    | some (.slice e), some d => if d.sz = P.cellsOf e ∧ 0 < d.sz then some (effPut t (one (.c (.sc (.int .i64 (d.row.length / d.sz : Nat)))))) else none
    | _, _ => none
  | _, _ => none

def zeroOk (P : Program) (e : TypeId) : Bool := match (P.info? e).bind (·.zero) with
  | some v => v.cells.size == P.cellsOf e
  | none => false
def effAppend (P : Program) (Ω : Orc α) (σ : St α) (t : Nat) (args : List Operand) (tys : List TypeId) : Option (Eff α) :=
  match args, tys with
  | [x, y], [tx, ty] => match P.underlying tx, P.underlying ty, sdOf σ x with
    | some (.slice e), some (.slice _), some d => if d.sz = P.cellsOf e ∧ 0 < d.sz ∧ zeroOk P e then match newsOf σ d.sz y with
      | some (news, pd) => if (news.length % d.sz = 0 ∧ (d.row.length + news.length) / d.sz ≤ 4611686018427387904 ∧ (d.row.length + news.length) / d.sz * P.bytesOf e ≤ 140737488355328) ∧ news.all (!·.isDead) ∧ d.row.all (!·.isDead) then match d with
        | .own r p sz _ _ true _ row => match takeAt σ pd r p with
          | some (_, pd') => some (pd'.fin t (one (.c (.sl true sz Ω.a (row ++ news)))))
          | none => none
        | .own _ _ sz _ _ false true row => if row.all Cell.copyable ∧ 0 < news.length then some (pd.fin t (one (.c (.sl true sz Ω.a (row ++ news))))) else none
        | _ => none else none
      | none => none else none
    | _, _, _ => none
  | _, _ => none

def effCopy (P : Program) (σ : St α) (t : Nat) (args : List Operand) (tys : List TypeId) : Option (Eff α) :=
  match args, tys with
  | [x, y], [tx, ty] => match P.underlying tx, P.underlying ty, sdOf σ x, sdOf σ y with
    | some (.slice e), some (.slice _), some (.own r p sz lo n _ _ drow), some d => if sz = P.cellsOf e ∧ d.sz = sz ∧ 0 < sz ∧ d.row.all Cell.copyable ∧ drow.all Cell.copyable then
      match (σ.get r).getP p with
      | some cl => some ⟨[(r, (σ.get r).setP p (cl.withRow (setRun cl.row lo (d.row.take (min d.row.length n))))), (t, one (.c (.sc (.int .i64 (min d.row.length n / sz : Nat)))))], [(t, [])], []⟩
      | none => none else none
    | _, _, _, _ => none
  | _, _ => none

def SC.ownAll : SC α → Bool
  | .c x => x.allOwn
  | _ => false
def SV.ownAll (v : SV α) : Bool := v.cs.all SC.ownAll
/-- What is known of the functions that may be called. -/
abbrev Env := FuncId → List (SV Unit) → Option (SV Unit)

def effCall (P : Program) (E : Env) (Ω : Orc α) (σ : St α) (t f : Nat) (args : List Operand) : Option (Eff α) :=
  match P.funcs[f]? with
  | some fn => match argsOf P Ω σ fn.params.toList args with
    | some l => match E f l with
      | some r => if r.ownAll then some (effPut t (Ω.dec r)) else none
      | none => none
    | none => none
  | none => none

/-- A call whose first argument is nil, as it is written: handed on as a scalar. -/
def nilMark : SV Unit := ⟨.one, [.c (.sc (.slice none 0 0))]⟩
def effCallNil (P : Program) (E : Env) (Ω : Orc α) (σ : St α) (t f : Nat) (args : List Operand) : Option (Eff α) :=
  match P.funcs[f]?, args with
  | some fn, .const (.slice none 0 0) :: rest => match argsOf P Ω σ fn.params.toList.tail rest with
    | some l => match E f (nilMark :: l) with
      | some r => if r.ownAll then some (effPut t (Ω.dec r)) else none
      | none => none
    | none => none
  | _, _ => none
/-- A call that is lent its first argument: its tree is taken, comes back changed (the first cell of what is known of the answer), with the same head. -/
def lendEff (t r : Nat) (p : List Nat) (y : Cell α) (v : SV α) (R : SV α) : Option (Eff α) := match R.cs with
  | .c z :: cs => if z.isOwn ∧ z.row.length = y.row.length then some ⟨[(r, v.setP p (y.withRow z.row)), (t, ⟨R.k, cs⟩)], (t, []) :: (List.range y.row.length).map (fun i => (r, p ++ [i])), []⟩ else none
  | _ => none
def effLend (P : Program) (E : Env) (Ω : Orc α) (σ : St α) (t f : Nat) (args : List Operand) : Option (Eff α) :=
  match P.funcs[f]?, args with
  | some fn, .tmp s :: rest => if (σ.get s).k = .one then match (σ.get s).cs with
    | [x] => match x.place s 0 with
      | some (r, p) => match takeAt σ pend0 r p with
        | some (y, d) => match argsOf P Ω ((putAll σ d.ch.reverse).kill d.kill) fn.params.toList.tail rest with
          | some l => match E f (one (.c y.erase) :: l) with
            | some R => if R.ownAll ∧ y.allOwn ∧ r ≠ t then lendEff t r p y (σ.get r) (Ω.dec R) else none
            | none => none
          | none => none
        | none => none
      | none => none
    | _ => none else none
  | _, _ => none

def kdLen : Option Nat → Nat
  | none => 1
  | some n => n
def kdKd : Option Nat → Kd
  | none => .one
  | some _ => .agg
def effExtract (σ : St α) (t : Nat) (x : Operand) (i : Nat) : Option (Eff α) :=
  match x with
  | .tmp s => match σ.get s with
    | ⟨.tup ks, cs⟩ => match ks[i]? with
      | some k => if ((ks.take i).map kdLen).sum + kdLen k ≤ cs.length then
        some (effPut t ⟨kdKd k, ((shareAll s 0 cs).drop (((ks.take i).map kdLen).sum)).take (kdLen k)⟩) else none
      | none => none
    | _ => none
  | _ => none

/-- A field of a struct's value. -/
def effField (P : Program) (σ : St α) (t ty : Nat) (x : Operand) (f : Nat) : Option (Eff α) :=
  match P.underlying ty, x with
  | some (.struct fs), .tmp s => match σ.get s, fs[f]? with
    | ⟨.agg, cs⟩, some fd => if fd.offset + P.cellsOf fd.type ≤ cs.length then aggOr P fd.type t (((shareAll s 0 cs).drop fd.offset).take (P.cellsOf fd.type)) else none
    | _, _ => none
  | _, _ => none

def effNil (σ : St α) (t : Nat) (x : Operand) : Option (Eff α) :=
  match x with
  | .tmp s => if (σ.get s).k = .one then match (σ.get s).cs with
    | [.c (.bx _ _ _)] | [.view _ _] | [.ref _ _ _ none] | [.fref _ _ _] => some (effPut t ⟨.one, shareAll s 0 (σ.get s).cs⟩)
    | _ => none else none
  | _ => none

/-- The first that serves. -/
def orElse {β : Type} (a b : Option β) : Option β := match a with
  | some x => some x
  | none => b

/-- The effect of an operation; 'none': it is not covered, or it may panic. 'E': what is known of the functions that it may call. -/
def ieff (P : Program) (E : Env) (Ω : Orc α) (σ : St α) (o : Oper) : Option (Eff α) :=
  match o.op with
  | .move x => match o.dst with | some t => effMove P Ω σ t o.type x | none => none
  | .assign x => match o.dst with | some t => effAssign P Ω σ t o.type x | none => none
  | .alloc e => match o.dst with | some t => effAlloc P Ω t e | none => none
  | .box e x => match o.dst with | some t => effBox P Ω σ t e x | none => none
  | .build ty parts => match o.dst with | some t => effBuild P Ω σ t ty parts.toList | none => none
  | .buildSlice ty len parts => match o.dst with | some t => orElse (effBuildSlice P Ω σ t ty len parts.toList) (effCut P Ω σ t ty len parts.toList) | none => none
  | .makeSlice ty x y => match o.dst with | some t => effMake P Ω σ t ty x y | none => none
  | .load ty x => match o.dst with | some t => effLoad P σ t ty x | none => none
  | .store ty x y => match o.dst with | some _ => none | none => effStore P Ω σ ty x y
  | .fieldAddr ty x f => match o.dst with | some t => effFieldAddr P σ t ty x f | none => none
  | .indexAddr ty x y => match o.dst with | some t => effIndexAddr P σ t ty x y | none => none
  | .slice ty x lo hi mx => match o.dst with | some t => orElse (effSlice P Ω σ t ty x lo hi mx) (orElse (effSliceArr P σ t ty x lo hi mx) (orElse (effSliceNil P Ω σ t ty o) (effPure P σ t o))) | none => none
  | .binOp op ty x y _ => match o.dst with | some t => orElse (effPure P σ t o) (effNilCmp P σ t op ty x y) | none => none
  | .extract x i => match o.dst with | some t => effExtract σ t x i | none => none
  | .nilCheck x => match o.dst with | some t => effNil σ t x | none => none
  | .field ty x f => match o.dst with | some t => orElse (effPure P σ t o) (effField P σ t ty x f) | none => none
  | .call c => match o.dst with
    | some t => match c.callee with
      | .builtin .len => orElse (effLen P σ t c.args.toList c.argTypes.toList) (effPure P σ t o)
      | .builtin .append => effAppend P Ω σ t c.args.toList c.argTypes.toList
      | .builtin .copy => effCopy P σ t c.args.toList c.argTypes.toList
      | .value (.func f) => orElse (effCall P E Ω σ t f c.args.toList) (orElse (effLend P E Ω σ t f c.args.toList) (effCallNil P E Ω σ t f c.args.toList))
      | _ => effPure P σ t o
    | none => none
  | _ => match o.dst with | some t => effPure P σ t o | none => none
end
end Go.Proofs.Ytnmocjhpbobahaa.L
namespace Go.Proofs.Ytnmocjhpbobahaa.L
open Go Go.RowKit

/-- Where a row begins; a slice's capacity. -/
structure Gh where
  a : Option Addr
  cap : Nat
  deriving Inhabited
abbrev GC := Cell Gh
/-- What is a call's own: all blocks from n on, and those that it was lent. -/
structure Zn where
  n : Nat
  S : List Nat
def Zn.has (z : Zn) (b : Nat) : Prop := z.n ≤ b ∨ b ∈ z.S
theorem Zn.old {z : Zn} {b : Nat} (h : ¬ z.has b) : b < z.n := Nat.lt_of_not_le fun k => h (.inl k)
/-- The world at a call's beginning, and what it was lent. -/
structure W0 where
  w : World
  S : List Nat
  arg : Value
def W0.zn (x : W0) : Zn := ⟨x.w.heap.size, x.S⟩
/-- What is not the call's own is as it was. -/
structure Bel (z : Zn) (w w' : World) : Prop where
  os : w'.os = w.os
  tape : w'.tape = w.tape
  output : w'.output = w.output
  size : w.heap.size ≤ w'.heap.size
  block : ∀ k, ¬ z.has k → w'.heap[k]? = w.heap[k]?
theorem Bel.refl (z : Zn) (w : World) : Bel z w w := ⟨rfl, rfl, rfl, Nat.le_refl _, fun _ _ => rfl⟩
theorem Bel.trans {z : Zn} {a b c : World} (h : Bel z a b) (k : Bel z b c) : Bel z a c :=
  ⟨k.os.trans h.os, k.tape.trans h.tape, k.output.trans h.output, Nat.le_trans h.size k.size, fun i hi => (k.block i hi).trans (h.block i hi)⟩
theorem Bel.drew {z : Zn} {a w : World} (h : Bel z a w) : Bel z a w.drew := ⟨h.os, h.tape, h.output, h.size, h.block⟩
theorem Bel.alloc {z : Zn} {a w : World} (h : Bel z a w) (hB : z.n ≤ w.heap.size) (o : Obj) : Bel z a (w.alloc o) :=
  h.trans ⟨rfl, rfl, rfl, by simp, fun k hk => Below.heap_alloc _ _ _ (by have := Zn.old hk; omega)⟩
theorem Bel.mono {z z' : Zn} {w w' : World} (h : Bel z w w') (hz : ∀ b, z.has b → z'.has b) : Bel z' w w' := ⟨h.os, h.tape, h.output, h.size, fun k hk => h.block k fun e => hk (hz k e)⟩
theorem Bel.below {n : Nat} {w w' : World} (h : Bel ⟨n, []⟩ w w') : Below n w w' := ⟨h.os, h.tape, h.output, h.size, fun k hk => h.block k fun e => by
  rcases e with e | e
  · simp only at e; omega
  · cases e⟩
theorem Below.bel {n : Nat} {w w' : World} (h : Below n w w') (S : List Nat) : Bel ⟨n, S⟩ w w' := ⟨h.os, h.tape, h.output, h.size, fun k hk => h.block k (Zn.old hk)⟩

def Cell.val : GC → Value
  | .sc v => v
  | .sl _ sz g row => .slice g.a (row.length / sz) g.cap
  | .bx _ g _ => .pointer g.a
  | .dead => undef
def Cell.gh : GC → Gh
  | .sl _ _ g _ => g
  | .bx _ g _ => g
  | _ => default

def blockOf (o : Bool) (g : Gh) : List Nat := if o then match g.a with | some a => [a.block] | none => [] else []
mutual
def foot : GC → List Nat
  | .sl o _ g row => blockOf o g ++ footL row
  | .bx o g row => blockOf o g ++ footL row
  | _ => []
def footL : List GC → List Nat
  | [] => []
  | c :: l => foot c ++ footL l
end
theorem footL_append (l m : List GC) : footL (l ++ m) = footL l ++ footL m := by
  induction l with
  | nil => rfl
  | cons c l ih => simp [footL, ih, List.append_assoc]
theorem mem_footL {b : Nat} {l : List GC} : b ∈ footL l ↔ ∃ c ∈ l, b ∈ foot c := by
  induction l with
  | nil => simp [footL]
  | cons c l ih => simp [footL, ih]

/-- The row has an address, and one with no spot. -/
def Gh.solid (g : Gh) : Prop := ∃ a, g.a = some a ∧ a.spot = none
/-- The row's cells lie in memory from a on. 'o': the block is the call's own (from n0 on), and has room. -/
def base (w : World) (n0 : Zn) (o : Bool) (a : Option Addr) (room : Nat) (row : List GC) : Prop := match a with
  | none => row = [] ∧ room = 0
  | some a => ((o = true ∨ row ≠ []) → a.spot = none) ∧ (∀ i c, row[i]? = some c → ∃ v, w.cell? (a.add i) = some v ∧ (c.isDead = true ∨ v = c.val)) ∧
    (if o = true then n0.has a.block ∧ row.length ≤ room ∧ ∃ cs e, w.heap[a.block]? = some (.cells cs e (0, 0)) ∧ a.off + room ≤ cs.size else row ≠ [] → ¬ n0.has a.block)
mutual
def holds (w : World) (n0 : Zn) : GC → Prop
  | .sc v => isSc v = true
  | .sl o sz g row => (0 < sz ∧ row.length % sz = 0 ∧ row.length / sz ≤ g.cap ∧ (o = false → footL row = [])) ∧ base w n0 o g.a (g.cap * sz) row ∧ holdsL w n0 row
  | .bx o g row => (g.solid ∧ (o = false → footL row = [])) ∧ base w n0 o g.a row.length row ∧ holdsL w n0 row
  | .dead => True
def holdsL (w : World) (n0 : Zn) : List GC → Prop
  | [] => True
  | c :: l => holds w n0 c ∧ holdsL w n0 l
end
theorem holdsL_iff {w : World} {n0 : Zn} {l : List GC} : holdsL w n0 l ↔ ∀ c ∈ l, holds w n0 c := by
  induction l with
  | nil => simp [holdsL]
  | cons c l ih => simp [holdsL, ih]

def Same (w w' : World) (b : Nat) : Prop := w'.heap[b]? = w.heap[b]?

theorem base_same {w w' : World} {n0 : Zn} {o : Bool} {g : Gh} {room : Nat} {row : List GC}
    (h1 : ∀ b ∈ blockOf o g, Same w w' b) (h2 : ∀ b, ¬ n0.has b → Same w w' b) (h : base w n0 o g.a room row) : base w' n0 o g.a room row := by
  cases hg : g.a with
  | none => rw [hg] at h; exact h
  | some a =>
    rw [hg] at h
    obtain ⟨hs, hc, ho⟩ := h
    by_cases hrow : row = []
    · refine ⟨hs, by simp [hrow], ?_⟩
      cases o with
      | true =>
        have : Same w w' a.block := h1 a.block (by simp [blockOf, hg])
        simp only [if_true] at ho ⊢
        unfold Same at this
        rw [this]
        exact ho
      | false => simp [hrow]
    · have hb : Same w w' a.block := by
        cases o with
        | true => exact h1 a.block (by simp [blockOf, hg])
        | false => exact h2 _ (by simpa using ho hrow)
      refine ⟨hs, fun i c hi => ?_, ?_⟩
      · obtain ⟨v, hv, hr⟩ := hc i c hi
        refine ⟨v, ?_, hr⟩
        rw [← hv]
        have e : (a.add i).block = a.block := by unfold Addr.add; split <;> rfl
        exact World.cell?_of_block (by rw [e]; exact hb)
      · unfold Same at hb
        rw [hb]
        exact ho

mutual
theorem holds_same {w w' : World} {n0 : Zn} : ∀ (c : GC), (∀ b ∈ foot c, Same w w' b) → (∀ b, ¬ n0.has b → Same w w' b) → holds w n0 c → holds w' n0 c
  | .sc _, _, _, h => h
  | .dead, _, _, _ => trivial
  | .sl o sz g row, h1, h2, h => by
    obtain ⟨ha, hb, hr⟩ := h
    exact ⟨ha, base_same (fun b hb => h1 b (by simp [foot, hb])) h2 hb, holdsL_same row (fun b hb => h1 b (by simp [foot, hb])) h2 hr⟩
  | .bx o g row, h1, h2, h => by
    obtain ⟨ha, hb, hr⟩ := h
    exact ⟨ha, base_same (fun b hb => h1 b (by simp [foot, hb])) h2 hb, holdsL_same row (fun b hb => h1 b (by simp [foot, hb])) h2 hr⟩
theorem holdsL_same {w w' : World} {n0 : Zn} : ∀ (l : List GC), (∀ b ∈ footL l, Same w w' b) → (∀ b, ¬ n0.has b → Same w w' b) → holdsL w n0 l → holdsL w' n0 l
  | [], _, _, _ => trivial
  | c :: l, h1, h2, h => ⟨holds_same c (fun b hb => h1 b (by simp [footL, hb])) h2 h.1, holdsL_same l (fun b hb => h1 b (by simp [footL, hb])) h2 h.2⟩
end

mutual
theorem foot_lt {w : World} {n0 : Zn} : ∀ (c : GC), holds w n0 c → ∀ b ∈ foot c, b < w.heap.size ∧ n0.has b
  | .sc _, _, b, hb => by simp [foot] at hb
  | .dead, _, b, hb => by simp [foot] at hb
  | .sl o sz g row, h, b, hb => by
    simp only [foot, List.mem_append] at hb
    rcases hb with hb | hb
    · exact block_lt h.2.1 b hb
    · exact footL_lt row h.2.2 b hb
  | .bx o g row, h, b, hb => by
    simp only [foot, List.mem_append] at hb
    rcases hb with hb | hb
    · exact block_lt h.2.1 b hb
    · exact footL_lt row h.2.2 b hb
theorem footL_lt {w : World} {n0 : Zn} : ∀ (l : List GC), holdsL w n0 l → ∀ b ∈ footL l, b < w.heap.size ∧ n0.has b
  | [], _, b, hb => by simp [footL] at hb
  | c :: l, h, b, hb => by
    simp only [footL, List.mem_append] at hb
    exact hb.elim (foot_lt c h.1 b) (footL_lt l h.2 b)
theorem block_lt {w : World} {n0 : Zn} {o : Bool} {g : Gh} {room : Nat} {row : List GC} (h : base w n0 o g.a room row) (b : Nat) (hb : b ∈ blockOf o g) : b < w.heap.size ∧ n0.has b := by
  unfold blockOf at hb
  cases o with
  | false => simp at hb
  | true =>
    cases hg : g.a with
    | none => simp [hg] at hb
    | some a =>
      simp only [hg, if_true, List.mem_singleton] at hb
      subst hb
      rw [hg] at h
      obtain ⟨_, _, ho⟩ := h
      simp only [if_true] at ho
      obtain ⟨h1, _, cs, e, h2, _⟩ := ho
      refine ⟨?_, h1⟩
      rcases Nat.lt_or_ge a.block w.heap.size with h | h
      · exact h
      · simp [Array.getElem?_eq_none h] at h2
end

def oneCell : Value → Bool
  | .agg _ | .tuple _ => false
  | _ => true
theorem isSc_oneCell {v : Value} (h : isSc v = true) : oneCell v = true := by cases v <;> simp_all [isSc, oneCell]
theorem val_oneCell {w : World} {n0 : Zn} {c : GC} (h : holds w n0 c) (hd : c.isDead = false) : oneCell c.val = true := by
  cases c <;> simp_all [Cell.val, Cell.isDead, oneCell, holds]
  exact isSc_oneCell h

/-! ### frozen -/
theorem foot_copyable {w : World} {n0 : Zn} {c : GC} (hc : c.copyable = true) (h : holds w n0 c) : foot c = [] := by
  cases c with
  | sc v => rfl
  | dead => rfl
  | sl o sz g row =>
    simp only [Cell.copyable, Bool.not_eq_true'] at hc
    subst hc
    simp [foot, blockOf, h.1.2.2.2]
  | bx o g row =>
    simp only [Cell.copyable, Bool.not_eq_true'] at hc
    subst hc
    simp [foot, blockOf, h.1.2]
theorem footL_copyable {w : World} {n0 : Zn} {l : List GC} (hc : l.all Cell.copyable = true) (h : holdsL w n0 l) : footL l = [] := by
  induction l with
  | nil => rfl
  | cons c l ih =>
    simp only [List.all_cons, Bool.and_eq_true] at hc
    simp [footL, foot_copyable hc.1 h.1, ih hc.2 h.2]

/-! ### paths -/
/-- What of a cell others see. -/
def Cell.head : GC → Bool × Bool × Nat × Nat × Gh
  | .sl o sz g row => (o, true, sz, row.length, g)
  | .bx o g row => (o, false, 0, row.length, g)
  | _ => (false, false, 0, 0, default)
theorem head_own {c d : GC} (h : c.head = d.head) (ho : c.isOwn = true) : d.isOwn = true := by
  cases c <;> cases d <;> simp_all [Cell.head, Cell.isOwn]
theorem head_val {c d : GC} (h : c.head = d.head) (ho : c.isOwn = true) : d.val = c.val := by
  cases c <;> cases d <;> simp_all [Cell.head, Cell.isOwn, Cell.val]
theorem withRow_head {c : GC} {l : List GC} (h : l.length = c.row.length) : (c.withRow l).head = c.head := by
  cases c <;> simp_all [Cell.withRow, Cell.head, Cell.row]

theorem setC_head : ∀ (p : List Nat) (c y : GC), p ≠ [] → (c.setC p y).head = c.head
  | [], _, _, h => absurd rfl h
  | j :: q, c, y, _ => by
    simp only [Cell.setC]
    split
    · exact withRow_head (by simp)
    · rfl
theorem withRow_row {c : GC} (h : c.isOwn = true) (l : List GC) : (c.withRow l).row = l := by cases c <;> simp_all [Cell.withRow, Cell.row, Cell.isOwn]
theorem withRow_own {c : GC} (l : List GC) : (c.withRow l).isOwn = c.isOwn := by cases c <;> rfl

theorem getC_cons {c : GC} {j : Nat} {q : List Nat} {y : GC} (h : c.getC (j :: q) = some y) : c.isOwn = true ∧ ∃ d, c.row[j]? = some d ∧ d.getC q = some y := by
  simp only [Cell.getC] at h
  split at h
  · next ho =>
    refine ⟨ho, ?_⟩
    split at h
    · next d hd => exact ⟨d, hd, h⟩
    · cases h
  · cases h
theorem getC_cons_eq {c : GC} {j : Nat} {q : List Nat} {d : GC} (ho : c.isOwn = true) (hd : c.row[j]? = some d) : c.getC (j :: q) = d.getC q := by
  simp [Cell.getC, ho, hd]

/-- A path that does not lead through the changed cell sees a cell with the same head. -/
theorem getC_setC_other : ∀ (p q : List Nat) (c y z : GC), p.isPrefixOf q = false → c.getC q = some z → ∃ z', (c.setC p y).getC q = some z' ∧ z'.head = z.head
  | [], q, _, _, _, h, _ => by simp at h
  | j :: p, [], c, y, z, _, hz => by
    simp only [Cell.getC, Option.some.injEq] at hz
    subst hz
    exact ⟨_, rfl, setC_head _ _ _ (by simp)⟩
  | j :: p, i :: q, c, y, z, h, hz => by
    obtain ⟨ho, d, hd, hz2⟩ := getC_cons hz
    clear hz
    simp only [Cell.setC]
    split
    · next e he =>
      have hl : j < c.row.length := (List.getElem?_eq_some_iff.1 he).1
      by_cases hij : j = i
      · subst hij
        rw [hd] at he
        cases he
        rw [getC_cons_eq (d := d.setC p y) (by rw [withRow_own]; exact ho) (by rw [withRow_row ho]; simp [List.getElem?_set, hl])]
        exact getC_setC_other p q d y z (by simpa [List.isPrefixOf] using h) hz2
      · rw [getC_cons_eq (d := d) (by rw [withRow_own]; exact ho) (by rw [withRow_row ho]; simp [List.getElem?_set, hij, hd])]
        exact ⟨z, hz2, rfl⟩
    · exact ⟨z, by rw [getC_cons_eq ho hd]; exact hz2, rfl⟩

theorem footL_set : ∀ (l : List GC) (j : Nat) (c d : GC), l[j]? = some c → (footL (l.set j d) ++ foot c).Perm (footL l ++ foot d)
  | [], j, _, _, h => by simp at h
  | x :: l, 0, c, d, h => by
    simp at h
    subst h
    simp only [List.set_cons_zero, footL]
    have : (foot d ++ footL l ++ foot x).Perm (foot x ++ footL l ++ foot d) := by
      refine (List.perm_append_comm).trans ?_
      rw [List.append_assoc]
      exact List.Perm.append_left _ List.perm_append_comm
    exact this
  | x :: l, j + 1, c, d, h => by
    simp at h
    simp only [List.set_cons_succ, footL, List.append_assoc]
    exact List.Perm.append_left _ (footL_set l j c d h)
theorem foot_row (c : GC) : foot c = blockOf c.isOwn c.gh ++ footL c.row := by
  cases c <;> first | rfl | simp [foot, Cell.isOwn, Cell.gh, Cell.row, footL, blockOf]
theorem foot_withRow {c : GC} (l : List GC) (h : c.isOwn = true) : foot (c.withRow l) = blockOf c.isOwn c.gh ++ footL l := by
  cases c <;> first | rfl | simp [Cell.isOwn] at h
theorem foot_setC : ∀ (p : List Nat) (c y y' : GC), c.getC p = some y → (foot (c.setC p y') ++ foot y).Perm (foot c ++ foot y')
  | [], c, y, y', h => by
    simp only [Cell.getC, Option.some.injEq] at h
    subst h
    exact List.perm_append_comm
  | j :: q, c, y, y', h => by
    obtain ⟨ho, d, hd, hy⟩ := getC_cons h
    have ih := foot_setC q d y y' hy
    simp only [Cell.setC, hd]
    rw [foot_withRow _ ho, foot_row c, List.append_assoc, List.append_assoc]
    refine List.Perm.append_left _ ?_
    have h1 := footL_set c.row j d (d.setC q y') hd
    -- footL set ++ foot y ++ foot d ~ footL row ++ foot y' ++ foot d
    have h2 : (footL (c.row.set j (d.setC q y')) ++ foot y ++ foot d).Perm (footL c.row ++ foot y' ++ foot d) := by
      have a1 : (footL (c.row.set j (d.setC q y')) ++ foot y ++ foot d).Perm ((footL (c.row.set j (d.setC q y')) ++ foot d) ++ foot y) := by
        rw [List.append_assoc, List.append_assoc]
        exact List.Perm.append_left _ List.perm_append_comm
      have a2 : ((footL (c.row.set j (d.setC q y')) ++ foot d) ++ foot y).Perm ((footL c.row ++ foot (d.setC q y')) ++ foot y) := List.Perm.append_right _ h1
      have a3 : ((footL c.row ++ foot (d.setC q y')) ++ foot y).Perm (footL c.row ++ (foot d ++ foot y')) := by
        rw [List.append_assoc]
        exact List.Perm.append_left _ ih
      have a4 : (footL c.row ++ (foot d ++ foot y')).Perm (footL c.row ++ foot y' ++ foot d) := by
        rw [List.append_assoc]
        exact List.Perm.append_left _ List.perm_append_comm
      exact a1.trans (a2.trans (a3.trans a4))
    exact (List.perm_append_right_iff _).1 h2

theorem holds_row {w : World} {n0 : Zn} {c : GC} (h : holds w n0 c) : holdsL w n0 c.row := by
  cases c <;> simp_all [holds, Cell.row, holdsL]
theorem holdsL_get {w : World} {n0 : Zn} {l : List GC} {j : Nat} {d : GC} (h : holdsL w n0 l) (hd : l[j]? = some d) : holds w n0 d :=
  holdsL_iff.1 h d (List.mem_of_getElem? hd)
theorem getC_holds {w : World} {n0 : Zn} : ∀ (p : List Nat) (c y : GC), c.getC p = some y → holds w n0 c → holds w n0 y
  | [], c, y, h, hc => by simp only [Cell.getC, Option.some.injEq] at h; exact h ▸ hc
  | j :: q, c, y, h, hc => by
    obtain ⟨_, d, hd, hy⟩ := getC_cons h
    exact getC_holds q d y hy (holdsL_get (holds_row hc) hd)

/-- A change of a cell's row that keeps its length. -/
theorem holds_withRow {w : World} {n0 : Zn} {c : GC} {l : List GC} (h : holds w n0 c) (ho : c.isOwn = true) (hl : l.length = c.row.length)
    (hv : ∀ i x, l[i]? = some x → ∀ a, c.gh.a = some a → ∃ v, w.cell? (a.add i) = some v ∧ (x.isDead = true ∨ v = x.val)) (hr : holdsL w n0 l) : holds w n0 (c.withRow l) := by
  cases c with
  | sc v => simp [Cell.isOwn] at ho
  | dead => simp [Cell.isOwn] at ho
  | sl o sz g row =>
    simp only [Cell.isOwn] at ho
    subst ho
    simp only [Cell.row] at hl
    obtain ⟨h1, h2, _⟩ := h
    refine ⟨⟨h1.1, by rw [hl]; exact h1.2.1, by rw [hl]; exact h1.2.2.1, by simp⟩, ?_, hr⟩
    cases hg : g.a with
    | none =>
      rw [hg] at h2
      obtain ⟨e, h2⟩ := h2
      exact ⟨by rw [e] at hl; simpa using hl, h2⟩
    | some a =>
      rw [hg] at h2
      obtain ⟨a1, a2, a3⟩ := h2
      exact ⟨fun _ => a1 (.inl rfl), fun i x hx => hv i x hx a hg, by rw [hl]; exact a3⟩
  | bx o g row =>
    simp only [Cell.isOwn] at ho
    subst ho
    simp only [Cell.row] at hl
    obtain ⟨h1, h2, _⟩ := h
    refine ⟨⟨h1.1, by simp⟩, ?_, hr⟩
    show base w n0 true g.a l.length l
    cases hg : g.a with
    | none => obtain ⟨⟨b, hb, _⟩, _⟩ := h1; rw [hg] at hb; cases hb
    | some a =>
      rw [hg] at h2
      obtain ⟨a1, a2, a3⟩ := h2
      exact ⟨fun _ => a1 (.inl rfl), fun i x hx => hv i x hx a hg, by rw [hl]; exact a3⟩
theorem solid_spot {g : Gh} {a : Addr} (h : g.solid) (ha : g.a = some a) : a.spot = none := by
  obtain ⟨b, hb, hs⟩ := h
  rw [ha] at hb; cases hb; exact hs
theorem base_cell {w : World} {n0 : Zn} {c : GC} (h : holds w n0 c) {i : Nat} {x : GC} (hx : c.row[i]? = some x) : ∃ a, c.gh.a = some a ∧ a.spot = none ∧ ∃ v, w.cell? (a.add i) = some v ∧ (x.isDead = true ∨ v = x.val) := by
  cases c with
  | sc v => simp [Cell.row] at hx
  | dead => simp [Cell.row] at hx
  | sl o sz g row =>
    simp only [Cell.row] at hx
    obtain ⟨_, h2, _⟩ := h
    cases hg : g.a with
    | none => rw [hg] at h2; obtain ⟨e, _⟩ := h2; subst e; simp at hx
    | some a =>
      rw [hg] at h2
      obtain ⟨a1, a2, _⟩ := h2
      exact ⟨a, hg, a1 (.inr fun e => by rw [e] at hx; simp at hx), a2 i x hx⟩
  | bx o g row =>
    simp only [Cell.row] at hx
    obtain ⟨_, h2, _⟩ := h
    cases hg : g.a with
    | none => rw [hg] at h2; obtain ⟨e, _⟩ := h2; subst e; simp at hx
    | some a =>
      rw [hg] at h2
      obtain ⟨a1, a2, _⟩ := h2
      exact ⟨a, hg, a1 (.inr fun e => by rw [e] at hx; simp at hx), a2 i x hx⟩

/-- What is put in has the value that stands in memory: 'setC' keeps a tree standing (nothing is written). -/
theorem holds_setC {w : World} {n0 : Zn} : ∀ (p : List Nat) (c y y' : GC), p ≠ [] → c.getC p = some y → holds w n0 c → holds w n0 y' → (y'.isDead = true ∨ (y.isDead = false ∧ y'.val = y.val)) → holds w n0 (c.setC p y')
  | [], _, _, _, hp, _, _, _, _ => absurd rfl hp
  | j :: q, c, y, y', _, h, hc, hy', hv => by
    obtain ⟨ho, d, hd, hy⟩ := getC_cons h
    simp only [Cell.setC, hd]
    have hj : j < c.row.length := (List.getElem?_eq_some_iff.1 hd).1
    have hdd := holdsL_get (holds_row hc) hd
    have key : holds w n0 (d.setC q y') ∧ ((d.setC q y').isDead = true ∨ d.isDead = false ∧ (d.setC q y').val = d.val) := by
      cases q with
      | nil =>
        simp only [Cell.getC, Option.some.injEq] at hy
        subst hy
        exact ⟨hy', hv⟩
      | cons i q =>
        refine ⟨holds_setC (i :: q) d y y' (by simp) hy hdd hy' hv, .inr ?_⟩
        obtain ⟨ho2, _⟩ := getC_cons hy
        have e := setC_head (i :: q) d y' (by simp)
        exact ⟨by cases d <;> simp_all [Cell.isDead, Cell.isOwn], head_val e.symm ho2⟩
    refine holds_withRow hc ho (by simp) ?_ ?_
    · intro i x hx a ha
      rw [List.getElem?_set] at hx
      split at hx
      · next hji =>
        subst hji
        simp only [hj, if_true, Option.some.injEq] at hx
        subst hx
        obtain ⟨a', ha', _, v, hv1, hv2⟩ := base_cell hc hd
        rw [ha] at ha'
        cases ha'
        refine ⟨v, hv1, ?_⟩
        rcases key.2 with k | ⟨k1, k2⟩
        · exact .inl k
        · rcases hv2 with hv2 | hv2
          · rw [hv2] at k1; cases k1
          · exact .inr (by rw [k2]; exact hv2)
      · obtain ⟨a', ha', _, hh⟩ := base_cell hc hx
        rw [ha] at ha'
        cases ha'
        exact hh
    · rw [holdsL_iff]
      intro x hx
      rcases List.mem_or_eq_of_mem_set hx with hx | hx
      · exact holdsL_iff.1 (holds_row hc) x hx
      · subst hx; exact key.1
end Go.Proofs.Ytnmocjhpbobahaa.L
namespace Go.Proofs.Ytnmocjhpbobahaa.L
open Go Go.RowKit

section
variable {α : Type}
theorem get_put (σ : St α) (s : Nat) (v : SV α) (t : Nat) : (σ.put s v).get t = if t = s then v else σ.get t := by
  induction σ with
  | nil =>
    simp only [St.put, St.get, List.lookup]
    by_cases h : t = s
    · simp [h]
    · have : (t == s) = false := by simpa using h
      simp [this, h]
  | cons x l ih =>
    obtain ⟨k, u⟩ := x
    simp only [St.put]
    split
    · next h =>
      subst h
      by_cases h : t = s
      · subst h; simp [St.get, List.lookup]
      · have : (t == s) = false := by simpa using h
        simp [St.get, List.lookup, this, h]
    · split
      · next h1 h2 =>
        by_cases h : t = s
        · subst h; simp [St.get, List.lookup]
        · have : (t == s) = false := by simpa using h
          simp [St.get, List.lookup, this, h]
      · next h1 h2 =>
        by_cases h : t = k
        · subst h
          have : t ≠ s := fun e => h1 e.symm
          simp [St.get, List.lookup, this]
        · have : (t == k) = false := by simpa using h
          simp only [St.get, List.lookup, this] at ih ⊢
          exact ih
theorem get_nil (t : Nat) : St.get ([] : St α) t = SV.dead := rfl
theorem get_map (f : SV α → SV α) (hf : f SV.dead = SV.dead) (σ : St α) (t : Nat) : St.get (σ.map fun x => (x.1, f x.2)) t = f (σ.get t) := by
  induction σ with
  | nil => simp [St.get, hf]
  | cons x l ih =>
    obtain ⟨k, u⟩ := x
    by_cases h : t = k
    · subst h; simp [St.get, List.lookup]
    · have : (t == k) = false := by simpa using h
      simp only [St.get, List.map_cons, List.lookup, this] at ih ⊢
      exact ih
theorem kill_nil_SC (x : SC α) : x.kill [] = x := by simp [SC.kill]
theorem kill_nil_SV (v : SV α) : v.kill [] = v := by
  cases v with
  | mk k cs =>
    simp only [SV.kill, SV.mk.injEq, true_and]
    exact (List.map_congr_left (fun x _ => kill_nil_SC x)).trans (List.map_id' cs)
theorem kill_dead (ks : List (Nat × List Nat)) : (SV.dead : SV α).kill ks = SV.dead := by
  simp [SV.dead, SV.kill, SC.kill, SC.dies]
theorem get_kill (σ : St α) (ks : List (Nat × List Nat)) (t : Nat) : (σ.kill ks).get t = (σ.get t).kill ks := by
  cases ks with
  | nil => simp [St.kill, kill_nil_SV]
  | cons k ks => exact get_map (fun v => v.kill (k :: ks)) (kill_dead _) σ t

theorem kill_c (ks : List (Nat × List Nat)) (x : Cell α) : (SC.c x).kill ks = .c x := by
  simp [SC.kill, SC.dies]
theorem kill_eq (ks : List (Nat × List Nat)) (x : SC α) : x.kill ks = x ∨ x.kill ks = .dead := by
  unfold SC.kill; split
  · exact .inr rfl
  · exact .inl rfl
theorem getP_kill (v : SV α) (ks : List (Nat × List Nat)) (p : List Nat) : (v.kill ks).getP p = v.getP p := by
  cases p with
  | nil => rfl
  | cons j q =>
    simp only [SV.getP, SV.kill, List.getElem?_map]
    cases h : v.cs[j]? with
    | none => rfl
    | some x =>
      simp only [Option.map_some]
      cases x with
      | c y => rw [kill_c]
      | view r q' => rcases kill_eq ks (SC.view r q' : SC α) with e | e <;> rw [e]
      | win r q' a b d => rcases kill_eq ks (SC.win r q' a b d : SC α) with e | e <;> rw [e]
      | ref r q' o m => rcases kill_eq ks (SC.ref r q' o m : SC α) with e | e <;> rw [e]
      | fref a l o => rcases kill_eq ks (SC.fref a l o : SC α) with e | e <;> rw [e]
      | cut r' x' ws => rcases kill_eq ks (SC.cut r' x' ws : SC α) with e | e <;> rw [e]
      | dead => rcases kill_eq ks (SC.dead : SC α) with e | e <;> rw [e]
theorem setP_kill (v : SV α) (ks : List (Nat × List Nat)) (p : List Nat) (y : Cell α) : (v.kill ks).setP p y = (v.setP p y).kill ks := by
  cases p with
  | nil => rfl
  | cons j q =>
    simp only [SV.setP, SV.kill, List.getElem?_map]
    cases h : v.cs[j]? with
    | none => rfl
    | some x =>
      simp only [Option.map_some]
      cases x with
      | c y => rw [kill_c]; simp [List.map_set, kill_c]
      | view r q' => rcases kill_eq ks (SC.view r q' : SC α) with e | e <;> rw [e]
      | win r q' a b d => rcases kill_eq ks (SC.win r q' a b d : SC α) with e | e <;> rw [e]
      | ref r q' o m => rcases kill_eq ks (SC.ref r q' o m : SC α) with e | e <;> rw [e]
      | fref a l o => rcases kill_eq ks (SC.fref a l o : SC α) with e | e <;> rw [e]
      | cut r' x' ws => rcases kill_eq ks (SC.cut r' x' ws : SC α) with e | e <;> rw [e]
      | dead => rcases kill_eq ks (SC.dead : SC α) with e | e <;> rw [e]
theorem kill_kill (v : SV α) (ks ls : List (Nat × List Nat)) : (v.kill ks).kill ls = v.kill (ks ++ ls) := by
  simp only [SV.kill, List.map_map]
  congr 1
  apply List.map_congr_left
  intro x _
  simp only [Function.comp, SC.kill, List.any_append]
  by_cases h : ks.any (fun k => x.dies k.1 k.2) = true
  · simp only [h, if_true, Bool.true_or, ite_self]
  · simp only [Bool.not_eq_true] at h
    simp only [h, Bool.false_eq_true, if_false, Bool.false_or]
theorem kill_cell (ks : List (Nat × List Nat)) (x : SC α) : (x.kill ks).cell = x.cell ∨ (x.kill ks).cell = .dead := by
  rcases kill_eq ks x with e | e <;> rw [e]
  · exact .inl rfl
  · exact .inr rfl
end

/-! ### what a slot's value is -/
def SC.root {α : Type} : SC α → Option Nat
  | .view r _ => some r
  | .win r _ _ _ _ => some r
  | .ref r _ _ _ => some r
  | .cut r _ ws => if ws.isEmpty then none else some r
  | _ => none

theorem cut_root {α : Type} {r : Nat} {x : Cell α} {ws : List (Nat × Part × Cell α)} {e : Nat × Part × Cell α} (he : e ∈ ws) : (SC.cut r x ws).root = some r := by
  cases ws with
  | nil => cases he
  | cons a l => rfl
theorem cut_rooted {α : Type} {r s : Nat} {x : Cell α} {ws : List (Nat × Part × Cell α)} (h : (SC.cut r x ws).root = some s) : r = s ∧ ∃ e, e ∈ ws := by
  cases ws with
  | nil => simp [SC.root] at h
  | cons a l => exact ⟨by simpa [SC.root] using h, a, by simp⟩
theorem dies_root {α : Type} {x : SC α} {s : Nat} (h : x.root = some s) : x.dies s [] = true := by
  cases x with
  | cut r x ws =>
    obtain ⟨rfl, e, he⟩ := cut_rooted h
    simp only [SC.dies, beq_self_eq_true, Bool.true_and]
    exact List.any_eq_true.2 ⟨e, he, by simp⟩
  | _ => simp_all [SC.root, SC.dies]

theorem root_dies {α : Type} {x : SC α} {s : Nat} {p : List Nat} (h : x.dies s p = true) : x.root = some s := by
  cases x with
  | cut r x ws =>
    simp only [SC.dies, Bool.and_eq_true, beq_iff_eq] at h
    obtain ⟨rfl, h⟩ := h
    obtain ⟨e, he, _⟩ := List.any_eq_true.1 h
    exact cut_root he
  | _ => simp_all [SC.root, SC.dies]

/-- An address; or a slice of all of an array that lies there. -/
def refVal (a : Addr) : Option (Nat × Nat) → Value
  | none => .pointer (some a)
  | some x => .slice (some a) x.1 x.1
@[simp] theorem refVal_none (a : Addr) : refVal a none = .pointer (some a) := rfl
/-- A slice's header that shows n cells from place lo on of a row that begins at g. -/
def Win (g : Gh) (sz lo n : Nat) (full : Bool) (v : Value) : Prop :=
  ∃ a' cap', v = .slice a' (n / sz) cap' ∧ n / sz ≤ cap' ∧ (full = true → cap' = n / sz) ∧ lo / sz + cap' ≤ g.cap ∧
    ((a' = g.a.map (·.add lo)) ∨ (cap' = 0 ∧ ∃ k, k ≤ g.cap * sz ∧ a' = g.a.map (·.add k)))

/-- What a borrowed part's header is. -/
def partRel (Γ : St Gh) (r : Nat) : Part → Value → Prop
  | .win p lo n full, v => ∃ y, (Γ.get r).getP p = some y ∧ ∃ sz g len, y.head = (true, true, sz, len, g) ∧ lo + n ≤ len ∧ lo % sz = 0 ∧ n % sz = 0 ∧ Win g sz lo n full v
  | .arr p off n sz, v => ∃ y, (Γ.get r).getP p = some y ∧ y.isOwn = true ∧ ∃ a, y.gh.a = some a ∧ v = refVal (a.add off) (some (n, sz))
def scRel (Γ : St Gh) : SC Gh → Value → Prop
  | .c x, v => x.isDead = true ∨ v = x.val
  | .view r p, v => ∃ y, (Γ.get r).getP p = some y ∧ y.isOwn = true ∧ v = y.val
  | .win r p lo n full, v => ∃ y, (Γ.get r).getP p = some y ∧ ∃ sz g len, y.head = (true, true, sz, len, g) ∧ lo + n ≤ len ∧ lo % sz = 0 ∧ n % sz = 0 ∧ Win g sz lo n full v
  | .ref r p off m, v => ∃ y, (Γ.get r).getP p = some y ∧ y.isOwn = true ∧ ∃ a, y.gh.a = some a ∧ v = refVal (a.add off) m
  | .fref g _ off, v => ∃ a, g.a = some a ∧ v = .pointer (some (a.add off))
  | .cut r x ws, v => v = x.val ∧ ∀ e ∈ ws, partRel Γ r e.2.1 e.2.2.val
  | .dead, _ => True

def scHolds (w : World) (n0 : Zn) : SC Gh → Prop
  | .c x => holds w n0 x
  | .fref g row _ => holds w n0 (.bx false g row)
  | .cut _ x ws => holds w n0 x ∧ x.isOwn = true ∧ ∀ e ∈ ws, x.row[e.1]? = some .dead ∧ ∀ a, x.gh.a = some a → w.cell? (a.add e.1) = some e.2.2.val
  | _ => True

/-- The values of a slot's cells, as one value. -/
def packL : List (Option Nat) → List Value → List Value
  | [], _ => []
  | none :: ks, vs => vs.headD undef :: packL ks vs.tail
  | some n :: ks, vs => .agg (vs.take n).toArray :: packL ks (vs.drop n)
def pack : Kd → List Value → Value
  | .one, vs => vs.headD undef
  | .agg, vs => .agg vs.toArray
  | .tup ks, vs => .tuple (packL ks vs).toArray

def rels (Γ : St Gh) : List (SC Gh) → List Value → Prop
  | [], [] => True
  | x :: l, v :: vs => scRel Γ x v ∧ rels Γ l vs
  | _, _ => False
def svRel (Γ : St Gh) (v : SV Gh) (u : Value) : Prop := ∃ vs, rels Γ v.cs vs ∧ u = pack v.k vs

def footV (v : SV Gh) : List Nat := footL (v.cs.map SC.cell)

theorem rels_mono {Γ Γ' : St Gh} {l l' : List (SC Gh)} {vs : List Value} (h : rels Γ l vs) (hl : l'.length = l.length)
    (hm : ∀ (i : Nat) (x x' : SC Gh) (u : Value), l[i]? = some x → l'[i]? = some x' → scRel Γ x u → scRel Γ' x' u) : rels Γ' l' vs := by
  induction l generalizing l' vs with
  | nil =>
    cases l' with
    | nil => cases vs <;> simp_all [rels]
    | cons x l' => simp at hl
  | cons x l ih =>
    cases l' with
    | nil => simp at hl
    | cons x' l' =>
      cases vs with
      | nil => simp [rels] at h
      | cons v vs =>
        refine ⟨hm 0 x x' v rfl rfl h.1, ih h.2 (by simpa using hl) (fun i y y' u hy hy' => hm (i + 1) y y' u (by simpa using hy) (by simpa using hy'))⟩
theorem rels_length {Γ : St Gh} {l : List (SC Gh)} {vs : List Value} (h : rels Γ l vs) : vs.length = l.length := by
  induction l generalizing vs with
  | nil => cases vs <;> simp_all [rels]
  | cons x l ih => cases vs with
    | nil => simp [rels] at h
    | cons v vs => simp [ih h.2]
theorem rels_get {Γ : St Gh} {l : List (SC Gh)} {vs : List Value} (h : rels Γ l vs) {i : Nat} {x : SC Gh} (hx : l[i]? = some x) : ∃ u, vs[i]? = some u ∧ scRel Γ x u := by
  induction l generalizing vs i with
  | nil => simp at hx
  | cons y l ih => cases vs with
    | nil => simp [rels] at h
    | cons v vs => cases i with
      | zero => simp at hx; subst hx; exact ⟨v, rfl, h.1⟩
      | succ i => simp at hx; simpa using ih h.2 hx

/-- The invariant: Γ's slots hold what the machine's slots hold, and what they own lies apart; xs: what is owned by nobody just now. -/
structure Inv (w0 : W0) (Γ : St Gh) (xs : List GC) (tm : Array Value) (w : World) : Prop where
  below : Bel w0.zn w0.w w
  rel : ∀ s, svRel Γ (Γ.get s) (tm.getD s undef)
  hold : ∀ s x, x ∈ (Γ.get s).cs → scHolds w w0.zn x
  pool : holdsL w w0.zn xs
  nod : ∀ s, (footV (Γ.get s)).Nodup
  dis : ∀ s t b, b ∈ footV (Γ.get s) → b ∈ footV (Γ.get t) → s = t
  nodP : (footL xs).Nodup
  disP : ∀ s b, b ∈ footV (Γ.get s) → b ∉ footL xs

theorem partRel_congr {Γ Γ' : St Gh} (h : ∀ s, Γ'.get s = Γ.get s) {r : Nat} {q : Part} {u : Value} (hr : partRel Γ r q u) : partRel Γ' r q u := by
  cases q <;> simp only [partRel, h] at hr ⊢ <;> exact hr
theorem scRel_congr {Γ Γ' : St Gh} (h : ∀ s, Γ'.get s = Γ.get s) {x : SC Gh} {u : Value} (hr : scRel Γ x u) : scRel Γ' x u := by
  cases x with
  | cut r x ws => exact ⟨hr.1, fun e he => partRel_congr h (hr.2 e he)⟩
  | _ => simp only [scRel, h] at hr ⊢ <;> exact hr
theorem rels_congr {Γ Γ' : St Gh} (h : ∀ s, Γ'.get s = Γ.get s) {l : List (SC Gh)} {vs : List Value} (hr : rels Γ l vs) : rels Γ' l vs :=
  rels_mono hr rfl (fun i x x' u hx hx' hh => by rw [hx] at hx'; cases hx'; exact scRel_congr h hh)
theorem Inv.congr {w0 : W0} {w : World} {Γ Γ' : St Gh} {xs : List GC} {tm : Array Value} (h : Inv w0 Γ xs tm w) (he : ∀ s, Γ'.get s = Γ.get s) : Inv w0 Γ' xs tm w where
  below := h.below
  rel s := by rw [he s]; obtain ⟨vs, h1, h2⟩ := h.rel s; exact ⟨vs, rels_congr he h1, h2⟩
  hold s := by rw [he s]; exact h.hold s
  pool := h.pool
  nod s := by rw [he s]; exact h.nod s
  dis s t b := by rw [he s, he t]; exact h.dis s t b
  nodP := h.nodP
  disP s b := by rw [he s]; exact h.disP s b

theorem footV_kill (v : SV Gh) (ks : List (Nat × List Nat)) : (footV (v.kill ks)).Sublist (footV v) := by
  obtain ⟨k, cs⟩ := v
  simp only [footV, SV.kill]
  induction cs with
  | nil => exact List.Sublist.refl _
  | cons x l ih =>
    simp only [List.map_cons, footL]
    refine List.Sublist.append ?_ ih
    rcases kill_cell ks x with e | e <;> rw [e]
    · exact List.Sublist.refl _
    · exact List.nil_sublist _
theorem partRel_kill {Γ : St Gh} {ks : List (Nat × List Nat)} {r : Nat} {q : Part} {u : Value} (h : partRel Γ r q u) : partRel (Γ.kill ks) r q u := by
  cases q <;> simp only [partRel, get_kill, getP_kill] at h ⊢ <;> exact h
theorem scRel_kill {Γ : St Gh} {ks ls : List (Nat × List Nat)} {x : SC Gh} {u : Value} (h : scRel Γ x u) : scRel (Γ.kill ks) (x.kill ls) u := by
  rcases kill_eq ls x with e | e
  · rw [e]
    cases x with
    | cut r x ws => exact ⟨h.1, fun e he => partRel_kill (h.2 e he)⟩
    | _ => simp only [scRel, get_kill, getP_kill] at h ⊢ <;> exact h
  · rw [e]; trivial
/-- Views may be forgotten. -/
theorem Inv.kill {w0 : W0} {w : World} {Γ : St Gh} {xs : List GC} {tm : Array Value} (h : Inv w0 Γ xs tm w) (ks : List (Nat × List Nat)) : Inv w0 (Γ.kill ks) xs tm w where
  below := h.below
  rel s := by
    rw [get_kill]
    obtain ⟨vs, h1, h2⟩ := h.rel s
    refine ⟨vs, rels_mono h1 (by simp [SV.kill]) ?_, h2⟩
    intro i x x' u hx hx' hr
    simp only [SV.kill, List.getElem?_map, hx, Option.map_some, Option.some.injEq] at hx'
    subst hx'
    exact scRel_kill hr
  hold s x hx := by
    rw [get_kill] at hx
    simp only [SV.kill, List.mem_map] at hx
    obtain ⟨y, hy, rfl⟩ := hx
    have := h.hold s y hy
    rcases kill_eq ks y with e | e <;> rw [e]
    · exact this
    · trivial
  pool := h.pool
  nod s := by rw [get_kill]; exact (footV_kill _ _).nodup (h.nod s)
  dis s t b := by rw [get_kill, get_kill]; exact fun h1 h2 => h.dis s t b ((footV_kill _ _).subset h1) ((footV_kill _ _).subset h2)
  nodP := h.nodP
  disP s b := by rw [get_kill]; exact fun h1 => h.disP s b ((footV_kill _ _).subset h1)

theorem Inv.perm {w0 : W0} {w : World} {Γ : St Gh} {xs ys : List GC} {tm : Array Value} (h : Inv w0 Γ xs tm w) (hp : (footL ys).Perm (footL xs)) (hh : holdsL w w0.zn ys) : Inv w0 Γ ys tm w where
  below := h.below
  rel := h.rel
  hold := h.hold
  pool := hh
  nod := h.nod
  dis := h.dis
  nodP := hp.nodup_iff.2 h.nodP
  disP s b hb := fun hm => h.disP s b hb (hp.mem_iff.1 hm)
theorem Inv.drop {w0 : W0} {w : World} {Γ : St Gh} {y : GC} {xs : List GC} {tm : Array Value} (h : Inv w0 Γ (y :: xs) tm w) : Inv w0 Γ xs tm w where
  below := h.below
  rel := h.rel
  hold := h.hold
  pool := h.pool.2
  nod := h.nod
  dis := h.dis
  nodP := (List.nodup_append.1 h.nodP).2.1
  disP s b hb := fun hm => h.disP s b hb (by simp [footL, hm])

theorem getP_cell {v : SV Gh} {j : Nat} {q : List Nat} {y : GC} (h : v.getP (j :: q) = some y) : ∃ x, v.cs[j]? = some (.c x) ∧ x.getC q = some y := by
  simp only [SV.getP] at h
  split at h
  · next x hx => exact ⟨x, hx, h⟩
  · cases h
theorem footL_map_set {l : List (SC Gh)} {j : Nat} {x : GC} {z : GC} (h : l[j]? = some (.c x)) : (footL ((l.set j (.c z)).map SC.cell) ++ foot x).Perm (footL (l.map SC.cell) ++ foot z) := by
  have := footL_set (l.map SC.cell) j x z (by simp [h, SC.cell])
  rw [List.map_set]
  exact this
theorem footV_setP {v : SV Gh} {p : List Nat} {y y' : GC} (h : v.getP p = some y) : (footV (v.setP p y') ++ foot y).Perm (footV v ++ foot y') := by
  cases p with
  | nil => simp [SV.getP] at h
  | cons j q =>
    obtain ⟨x, hx, hy⟩ := getP_cell h
    simp only [SV.setP, hx, footV]
    have h1 := footL_map_set (z := x.setC q y') hx
    have h2 := foot_setC q x y y' hy
    have a1 : (footL ((v.cs.set j (.c (x.setC q y'))).map SC.cell) ++ foot y ++ foot x).Perm ((footL ((v.cs.set j (.c (x.setC q y'))).map SC.cell) ++ foot x) ++ foot y) := by
      rw [List.append_assoc, List.append_assoc]; exact List.Perm.append_left _ List.perm_append_comm
    have a2 := List.Perm.append_right (foot y) h1
    have a3 : ((footL (v.cs.map SC.cell) ++ foot (x.setC q y')) ++ foot y).Perm (footL (v.cs.map SC.cell) ++ (foot x ++ foot y')) := by
      rw [List.append_assoc]; exact List.Perm.append_left _ h2
    have a4 : (footL (v.cs.map SC.cell) ++ (foot x ++ foot y')).Perm (footL (v.cs.map SC.cell) ++ foot y' ++ foot x) := by
      rw [List.append_assoc]; exact List.Perm.append_left _ List.perm_append_comm
    exact (List.perm_append_right_iff _).1 (a1.trans (a2.trans (a3.trans a4)))
theorem getP_setP_other {v : SV Gh} {p q : List Nat} {y z : GC} (hpq : p.isPrefixOf q = false) (h : v.getP q = some z) : ∃ z', (v.setP p y).getP q = some z' ∧ z'.head = z.head := by
  cases p with
  | nil => simp at hpq
  | cons j p =>
    cases q with
    | nil => simp [SV.getP] at h
    | cons i q =>
      obtain ⟨x, hx, hz⟩ := getP_cell h
      simp only [SV.setP]
      split
      · next e he =>
        by_cases hij : j = i
        · subst hij
          rw [hx] at he
          cases he
          obtain ⟨z', h1, h2⟩ := getC_setC_other p q x y z (by simpa [List.isPrefixOf] using hpq) hz
          have hl : j < v.cs.length := (List.getElem?_eq_some_iff.1 hx).1
          exact ⟨z', by simp [SV.getP, List.getElem?_set, hl, h1], h2⟩
        · exact ⟨z, by simp [SV.getP, List.getElem?_set, hij, hx, hz], rfl⟩
      · exact ⟨z, h, rfl⟩
theorem partRel_head {Γ Γ' : St Gh} {r : Nat} {q : Part} {u : Value} (h : partRel Γ r q u)
    (hh : ∀ z, (Γ.get r).getP q.path = some z → ∃ z', (Γ'.get r).getP q.path = some z' ∧ z'.head = z.head) : partRel Γ' r q u := by
  cases q with
  | win p lo n f =>
    obtain ⟨y, h1, sz, g, len, h2, h3⟩ := h
    obtain ⟨z', e1, e2⟩ := hh y h1
    exact ⟨z', e1, sz, g, len, e2.trans h2, h3⟩
  | arr p off n sz =>
    obtain ⟨y, h1, h2, a, h3, h4⟩ := h
    obtain ⟨z', e1, e2⟩ := hh y h1
    refine ⟨z', e1, head_own e2.symm h2, a, ?_, h4⟩
    have : z'.gh = y.gh := by cases y <;> cases z' <;> simp_all [Cell.head, Cell.gh, Cell.isOwn]
    rw [this]; exact h3
theorem part_own {Γ : St Gh} {r : Nat} {q : Part} {u : Value} (h : partRel Γ r q u) : ∃ y, (Γ.get r).getP q.path = some y ∧ y.isOwn = true := by
  cases q with
  | win p lo n f =>
    obtain ⟨y, h1, sz, g, len, h2, _⟩ := h
    exact ⟨y, h1, by cases y <;> simp_all [Cell.head, Cell.isOwn]⟩
  | arr p off n sz =>
    obtain ⟨y, h1, h2, _⟩ := h
    exact ⟨y, h1, h2⟩
theorem scRel_head {Γ Γ' : St Gh} {x : SC Gh} {u : Value} (h : scRel Γ x u)
    (hh : ∀ r q z, x.root = some r → (x = .view r q ∨ (∃ lo n f, x = .win r q lo n f) ∨ (∃ off m, x = .ref r q off m) ∨ ∃ x' ws e, x = .cut r x' ws ∧ e ∈ ws ∧ e.2.1.path = q) → (Γ.get r).getP q = some z → ∃ z', (Γ'.get r).getP q = some z' ∧ z'.head = z.head) : scRel Γ' x u := by
  cases x with
  | c x => exact h
  | dead => trivial
  | fref g row off => exact h
  | cut r x ws => exact ⟨h.1, fun e he => partRel_head (h.2 e he) (fun z hz => hh r _ z (cut_root he) (.inr (.inr (.inr ⟨x, ws, e, rfl, he, rfl⟩))) hz)⟩
  | view r q =>
    obtain ⟨y, h1, h2, h3⟩ := h
    obtain ⟨z', e1, e2⟩ := hh r q y rfl (.inl rfl) h1
    exact ⟨z', e1, head_own e2.symm h2, by rw [h3, head_val e2.symm h2]⟩
  | win r q lo n f =>
    obtain ⟨y, h1, sz, g, len, h2, h3⟩ := h
    obtain ⟨z', e1, e2⟩ := hh r q y rfl (.inr (.inl ⟨_, _, _, rfl⟩)) h1
    exact ⟨z', e1, sz, g, len, e2.trans h2, h3⟩
  | ref r q off m =>
    obtain ⟨y, h1, h2, a, h3, h4⟩ := h
    obtain ⟨z', e1, e2⟩ := hh r q y rfl (.inr (.inr (.inl ⟨_, _, rfl⟩))) h1
    refine ⟨z', e1, head_own e2.symm h2, a, ?_, h4⟩
    have : z'.gh = y.gh := by cases y <;> cases z' <;> simp_all [Cell.head, Cell.gh, Cell.isOwn]
    rw [this]; exact h3

/-- No view leads through (r, p). -/
def Clear (Γ : St Gh) (r : Nat) (p : List Nat) : Prop := ∀ s x, x ∈ (Γ.get s).cs → x.dies r p = false
theorem clear_path {Γ : St Gh} {r : Nat} {p : List Nat} (hc : Clear Γ r p) {s : Nat} {x : SC Gh} (hx : x ∈ (Γ.get s).cs) {q : List Nat}
    (hq : x = .view r q ∨ (∃ lo n f, x = .win r q lo n f) ∨ (∃ off m, x = .ref r q off m) ∨ ∃ x' ws e, x = .cut r x' ws ∧ e ∈ ws ∧ e.2.1.path = q) : p.isPrefixOf q = false := by
  have := hc s x hx
  rcases hq with rfl | ⟨_, _, _, rfl⟩ | ⟨_, _, rfl⟩ | ⟨_, ws, e, rfl, he, hep⟩
  · simpa [SC.dies] using this
  · simpa [SC.dies] using this
  · simpa [SC.dies] using this
  · simp only [SC.dies, beq_self_eq_true, Bool.true_and] at this
    rw [List.any_eq_false] at this
    rw [← hep]
    exact Bool.eq_false_iff.2 (this e he)
theorem kill_clear (Γ : St Gh) (ks : List (Nat × List Nat)) (r : Nat) (p : List Nat) (h : (r, p) ∈ ks) : Clear (Γ.kill ks) r p := by
  intro s x hx
  rw [get_kill] at hx
  simp only [SV.kill, List.mem_map] at hx
  obtain ⟨y, hy, rfl⟩ := hx
  unfold SC.kill
  split
  · rfl
  · next hn =>
    cases hd : y.dies r p with
    | false => rfl
    | true => exact absurd (List.any_eq_true.2 ⟨(r, p), h, hd⟩) hn

/-- A change inside a slot's trees that keeps what the slot itself shows, at a place that no view leads through. -/
theorem rel_setP {w0 : W0} {w : World} {Γ : St Gh} {xs : List GC} {tm : Array Value} (h : Inv w0 Γ xs tm w) {r : Nat} {p : List Nat} {y y' : GC}
    (hc : Clear Γ r p) (hy : (Γ.get r).getP p = some y) (hd : y'.isDead = true ∨ (y.isDead = false ∧ y'.val = y.val)) :
    ∀ s, svRel (Γ.put r ((Γ.get r).setP p y')) ((Γ.put r ((Γ.get r).setP p y')).get s) (tm.getD s undef) := by
  have hh : ∀ s x, x ∈ (Γ.get s).cs → ∀ u, scRel Γ x u → scRel (Γ.put r ((Γ.get r).setP p y')) x u := by
    intro s x hx u hu
    refine scRel_head hu ?_
    intro r' q z _ hform hz
    rw [get_put]
    split
    · next e =>
      subst e
      exact getP_setP_other (clear_path hc hx hform) hz
    · exact ⟨z, hz, rfl⟩
  intro s
  obtain ⟨vs, h1, h2⟩ := h.rel s
  rw [get_put]
  split
  · next e =>
    subst e
    refine ⟨vs, rels_mono h1 ?_ ?_, ?_⟩
    · cases p with
      | nil => rfl
      | cons j q => simp only [SV.setP]; split <;> simp
    · intro i x x' u hx hx' hr
      cases p with
      | nil => simp [SV.getP] at hy
      | cons j q =>
        obtain ⟨z, hz, hzy⟩ := getP_cell hy
        simp only [SV.setP, hz] at hx'
        rw [List.getElem?_set] at hx'
        split at hx'
        · next hji =>
          subst hji
          rw [hz] at hx
          cases hx
          have hl : j < (Γ.get s).cs.length := (List.getElem?_eq_some_iff.1 hz).1
          simp only [hl, if_true, Option.some.injEq] at hx'
          subst hx'
          cases q with
          | nil =>
            simp only [Cell.getC, Option.some.injEq] at hzy
            subst hzy
            rcases hd with hd | ⟨hd1, hd2⟩
            · exact .inl hd
            · rcases hr with hr | hr
              · rw [hr] at hd1; cases hd1
              · exact .inr (by rw [hr]; exact hd2.symm)
          | cons i q =>
            obtain ⟨ho, _⟩ := getC_cons hzy
            have e := setC_head (i :: q) z y' (by simp)
            rcases hr with hr | hr
            · cases z <;> simp_all [Cell.isOwn, Cell.isDead]
            · exact .inr (by rw [hr, head_val e.symm ho])
        · rw [hx] at hx'
          cases hx'
          exact hh s x (List.mem_of_getElem? hx) u hr
    · cases p with
      | nil => exact h2
      | cons j q =>
        have : ((Γ.get s).setP (j :: q) y').k = (Γ.get s).k := by simp only [SV.setP]; split <;> rfl
        rw [this]; exact h2
  · exact ⟨vs, rels_mono h1 rfl (fun i x x' u hx hx' hr => by rw [hx] at hx'; cases hx'; exact hh s x (List.mem_of_getElem? hx) u hr), h2⟩

theorem hold_setP {w : World} {n0 : Zn} {v : SV Gh} {p : List Nat} {y y' : GC} (hv : ∀ x ∈ v.cs, scHolds w n0 x) (hy : v.getP p = some y) (hy' : holds w n0 y')
    (hd : y'.isDead = true ∨ (y.isDead = false ∧ y'.val = y.val)) : ∀ x ∈ (v.setP p y').cs, scHolds w n0 x := by
  cases p with
  | nil => simp [SV.getP] at hy
  | cons j q =>
    obtain ⟨z, hz, hzy⟩ := getP_cell hy
    intro x hx
    simp only [SV.setP, hz] at hx
    rcases List.mem_or_eq_of_mem_set hx with hx | hx
    · exact hv x hx
    · subst hx
      have hzh : holds w n0 z := hv (.c z) (List.mem_of_getElem? hz)
      cases q with
      | nil => exact hy'
      | cons i q => exact holds_setC (i :: q) z y y' (by simp) hzy hzh hy' hd

/-- TAKING OUT what is owned at (r, p). -/
theorem Inv.take {w0 : W0} {w : World} {Γ : St Gh} {xs : List GC} {tm : Array Value} (h : Inv w0 Γ xs tm w) {r : Nat} {p : List Nat} {y : GC}
    (hc : Clear Γ r p) (hy : (Γ.get r).getP p = some y) : Inv w0 (Γ.put r ((Γ.get r).setP p .dead)) (y :: xs) tm w := by
  have hperm := footV_setP (y' := .dead) hy
  simp only [foot, List.append_nil] at hperm
  have hn : (footV ((Γ.get r).setP p .dead) ++ foot y).Nodup := hperm.nodup_iff.2 (h.nod r)
  have hsub : ∀ b, b ∈ footV ((Γ.get r).setP p .dead) → b ∈ footV (Γ.get r) := fun b hb => hperm.mem_iff.1 (by simp [hb])
  have hsuby : ∀ b, b ∈ foot y → b ∈ footV (Γ.get r) := fun b hb => hperm.mem_iff.1 (by simp [hb])
  have hyh : holds w w0.zn y := by
    cases p with
    | nil => simp [SV.getP] at hy
    | cons j q =>
      obtain ⟨z, hz, hzy⟩ := getP_cell hy
      exact getC_holds q z y hzy (h.hold r (.c z) (List.mem_of_getElem? hz))
  refine ⟨h.below, rel_setP h hc hy (.inl rfl), ?_, ⟨hyh, h.pool⟩, ?_, ?_, ?_, ?_⟩
  · intro s x hx
    rw [get_put] at hx
    split at hx
    · exact hold_setP (fun x hx => h.hold r x hx) hy (by unfold holds; trivial) (.inl rfl) x hx
    · exact h.hold s x hx
  · intro s
    rw [get_put]
    split
    · exact (List.nodup_append.1 hn).1
    · exact h.nod s
  · intro s t b hs ht
    rw [get_put] at hs ht
    have hs' : b ∈ footV (Γ.get s) := by
      split at hs
      · next e => subst e; exact hsub b hs
      · exact hs
    have ht' : b ∈ footV (Γ.get t) := by
      split at ht
      · next e => subst e; exact hsub b ht
      · exact ht
    exact h.dis s t b hs' ht'
  · simp only [footL]
    refine List.nodup_append.2 ⟨(List.nodup_append.1 hn).2.1, h.nodP, ?_⟩
    intro a ha b hb hab
    subst hab
    exact h.disP r a (hsuby a ha) hb
  · intro s b hb
    rw [get_put] at hb
    simp only [footL, List.mem_append, not_or]
    split at hb
    · next e =>
      subst e
      exact ⟨fun hby => (List.nodup_append.1 hn).2.2 b hb b hby rfl, h.disP s b (hsub b hb)⟩
    · next e =>
      exact ⟨fun hby => e (h.dis s r b hb (hsuby b hby)), h.disP s b hb⟩

/-- LAYING: what was taken out (ys) comes into slot s; no view is rooted there. -/
theorem Inv.put {w0 : W0} {w : World} {Γ : St Gh} {ys xs : List GC} {tm : Array Value} (h : Inv w0 Γ (ys ++ xs) tm w) {s : Nat} {v : SV Gh} {u : Value}
    (hc : Clear Γ s []) (hs : s < tm.size) (hr : ∀ x ∈ v.cs, x.root ≠ some s) (hv : svRel Γ v u) (hh : ∀ x ∈ v.cs, scHolds w w0.zn x) (hf : (footV v).Perm (footL ys)) :
    Inv w0 (Γ.put s v) xs (tm.setIfInBounds s u) w := by
  have hsx : ∀ t x, x ∈ (Γ.get t).cs → x.root ≠ some s := by
    intro t x hx e
    have := hc t x hx
    rw [dies_root e] at this
    cases this
  have hrel : ∀ x u, x.root ≠ some s → scRel Γ x u → scRel (Γ.put s v) x u := by
    intro x u hx hu
    refine scRel_head hu ?_
    intro r q z hroot _ hz
    rw [get_put]
    split
    · next e => subst e; exact absurd hroot hx
    · exact ⟨z, hz, rfl⟩
  have hp := h.pool
  rw [holdsL_iff] at hp
  have hN : (footL ys ++ footL xs).Nodup := by have := h.nodP; rwa [footL_append] at this
  refine ⟨h.below, ?_, ?_, ?_, ?_, ?_, ?_, ?_⟩
  · intro t
    rw [get_put]
    split
    · next e =>
      subst e
      obtain ⟨vs, h1, h2⟩ := hv
      refine ⟨vs, rels_mono h1 rfl (fun i x x' u hx hx' hu => by rw [hx] at hx'; cases hx'; exact hrel x u (hr x (List.mem_of_getElem? hx)) hu), ?_⟩
      simp [Array.getElem?_setIfInBounds, hs, h2]
    · next e =>
      obtain ⟨vs, h1, h2⟩ := h.rel t
      refine ⟨vs, rels_mono h1 rfl (fun i x x' u hx hx' hu => by rw [hx] at hx'; cases hx'; exact hrel x u (hsx t x (List.mem_of_getElem? hx)) hu), ?_⟩
      rw [← h2]
      simp only [Array.getD_eq_getD_getElem?, Array.getElem?_setIfInBounds]
      rw [if_neg (fun h => e h.symm)]
  · intro t x hx
    rw [get_put] at hx
    split at hx
    · exact hh x hx
    · exact h.hold t x hx
  · rw [holdsL_iff]
    exact fun c hc => hp c (by simp [hc])
  · intro t
    rw [get_put]
    split
    · exact hf.nodup_iff.2 (List.nodup_append.1 hN).1
    · exact h.nod t
  · intro t t' b h1 h2
    rw [get_put] at h1 h2
    split at h1
    · next e =>
      split at h2
      · next e' => rw [e, e']
      · exact absurd (by rw [footL_append]; simp [hf.mem_iff.1 h1]) (h.disP t' b h2)
    · split at h2
      · exact absurd (by rw [footL_append]; simp [hf.mem_iff.1 h2]) (h.disP t b h1)
      · exact h.dis t t' b h1 h2
  · exact (List.nodup_append.1 hN).2.1
  · intro t b hb
    rw [get_put] at hb
    split at hb
    · exact fun hx => (List.nodup_append.1 hN).2.2 b (hf.mem_iff.1 hb) b hx rfl
    · intro hx
      exact h.disP t b hb (by rw [footL_append]; simp [hx])

theorem scHolds_same {w w' : World} {n0 : Zn} {x : SC Gh} (h1 : ∀ b ∈ foot x.cell, Same w w' b) (h2 : ∀ b, ¬ n0.has b → Same w w' b) (h : scHolds w n0 x) : scHolds w' n0 x := by
  cases x with
  | c y => exact holds_same y h1 h2 h
  | fref g row off =>
    refine holds_same (.bx false g row) (fun b hb' => ?_) h2 h
    have : foot (.bx false g row) = [] := foot_copyable rfl h
    rw [this] at hb'; simp at hb'
  | cut r y ws =>
    refine ⟨holds_same y h1 h2 h.1, h.2.1, fun e he => ⟨(h.2.2 e he).1, fun a ha => ?_⟩⟩
    rw [← (h.2.2 e he).2 a ha]
    have e2 : (a.add e.1).block = a.block := by unfold Addr.add; split <;> rfl
    have e3 : Same w w' a.block := h1 a.block (by simp only [SC.cell]; rw [foot_row, h.2.1]; simp [blockOf, ha])
    exact World.cell?_of_block (by rw [e2]; exact e3)
  | _ => trivial
theorem sc_foot {w : World} {n0 : Zn} {x : SC Gh} (h : scHolds w n0 x) : ∀ b ∈ foot x.cell, b < w.heap.size ∧ n0.has b := by
  cases x with
  | c y => exact foot_lt y h
  | cut r y ws => exact foot_lt y h.1
  | _ => intro b hb; simp [SC.cell, foot] at hb
/-- The world goes on; nothing of what is owned has turned. -/
theorem Inv.world {w0 : W0} {w w' : World} {Γ : St Gh} {xs : List GC} {tm : Array Value} (h : Inv w0 Γ xs tm w) (hb : Bel w0.zn w w')
    (hs : ∀ s b, b ∈ footV (Γ.get s) → Same w w' b) (hx : ∀ b ∈ footL xs, Same w w' b) : Inv w0 Γ xs tm w' where
  below := h.below.trans hb
  rel := h.rel
  hold s x hm := by
    exact scHolds_same (fun b hb' => hs s b (mem_footL.2 ⟨x.cell, List.mem_map.2 ⟨_, hm, rfl⟩, hb'⟩)) (fun b hb' => hb.block b hb') (h.hold s x hm)
  pool := holdsL_same xs hx (fun b hb' => hb.block b hb') h.pool
  nod := h.nod
  dis := h.dis
  nodP := h.nodP
  disP := h.disP
end Go.Proofs.Ytnmocjhpbobahaa.L
