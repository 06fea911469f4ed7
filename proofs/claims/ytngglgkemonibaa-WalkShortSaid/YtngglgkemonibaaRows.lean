/-
  No cell of these rows narrows 'for every input' (looked for: loops, veiled, ifaces, maps, wideKeys, modest, calm, conditions, laid).
  DERIVED. THE GIVEN ROWS OF THIS SEAT. 8 by the template 'for every input the law returns true; each argument reads behind the call as it read before'; 0 by the template 'total and deterministic' (their statements: YtngglgkemonibaaTotals.lean).
  GIVEN WITH THE SEED: the statements are not yours to turn. If you find one false, say at which input.
  Laid BY PROGRAM, IN A SANDBOX (cutbox-rows.mjs): the forced cells as the released guide's own fill.sh prints them over the translation 7a0ebb8c4bfb4645… (all of the seat's roots in one cut). By AI agents, Wed Nov 11 2026. No macro, syntax, notation, axiom, sorry.
-/
import Derived.Test.YtngglgkemonibaaChecked
import GoSem.Claim
import GoSem.ClaimJoined
import GoSem.ClaimMapViews
import Derived.JoinedTies
import Derived.KernelRfl
namespace Go.Proofs.Ytngglgkemonibaa
/- THE CELL 'sum', in the pinned program and in every row, IS THE sha256 OF THE DUMP (.gsa) THAT YtngglgkemonibaaProg.lean LOADS. Nothing in Lean hashes anything: it is a label: what it is worth is what the hold of that sum in a sandbox is worth. -/
noncomputable def Try.pinned : Pinned := { name := "ytngglgkemonibaa", sum := "7a0ebb8c4bfb4645c367a169617b37880dac39ff6c0525168338a009d31c5d25", checked := Try.checked }
namespace Rows
def none {H : Type} : Left H := { results := [], args := [] }

/-- 'carcanetlaw05.WalkPaths': WHATEVER THE INPUT: true; the input reads as it did. -/
def walkPathsSpec : ChangeSpec := { name := "walkPaths", fn := fun _ => fun
  | [d1, d2] => { results := [.lit (.bool true)], args := [d1, d2] }
  | _ => none }
def walkPathsRow : OpenClaim := { program := "ytngglgkemonibaa", sum := "7a0ebb8c4bfb4645c367a169617b37880dac39ff6c0525168338a009d31c5d25", func := "carcanet/carcanetlaw05.WalkPaths", spec := "walkPaths", unfollowed := true, recurses := true, apart := false }
def WalkPathsSaid : Prop := walkPathsRow.holds Try.pinned (OpenSpec.ofChange walkPathsSpec)

/-- ITS FALSE NEIGHBOUR: 'it returns false'. Refute it at one input. -/
def walkPathsWrong : ChangeSpec := { name := "walkPaths", fn := fun _ => fun
  | [d1, d2] => { results := [.lit (.bool false)], args := [d1, d2] }
  | _ => none }
def WalkPathsWrongFalsely : Prop := walkPathsRow.holds Try.pinned (OpenSpec.ofChange walkPathsWrong)

/-- 'carcanetlaw05.WalkRoute': WHATEVER THE INPUT: true; the input reads as it did. -/
def walkRouteSpec : ChangeSpec := { name := "walkRoute", fn := fun _ => fun
  | [d1, d2, d3] => { results := [.lit (.bool true)], args := [d1, d2, d3] }
  | _ => none }
def walkRouteRow : OpenClaim := { program := "ytngglgkemonibaa", sum := "7a0ebb8c4bfb4645c367a169617b37880dac39ff6c0525168338a009d31c5d25", func := "carcanet/carcanetlaw05.WalkRoute", spec := "walkRoute", unfollowed := true, recurses := true, apart := false }
def WalkRouteSaid : Prop := walkRouteRow.holds Try.pinned (OpenSpec.ofChange walkRouteSpec)

/-- ITS FALSE NEIGHBOUR: 'it returns false'. Refute it at one input. -/
def walkRouteWrong : ChangeSpec := { name := "walkRoute", fn := fun _ => fun
  | [d1, d2, d3] => { results := [.lit (.bool false)], args := [d1, d2, d3] }
  | _ => none }
def WalkRouteWrongFalsely : Prop := walkRouteRow.holds Try.pinned (OpenSpec.ofChange walkRouteWrong)

/-- 'carcanetlaw05.WalkTurn': WHATEVER THE INPUT: true; the input reads as it did. -/
def walkTurnSpec : ChangeSpec := { name := "walkTurn", fn := fun _ => fun
  | [d] => { results := [.lit (.bool true)], args := [d] }
  | _ => none }
def walkTurnRow : OpenClaim := { program := "ytngglgkemonibaa", sum := "7a0ebb8c4bfb4645c367a169617b37880dac39ff6c0525168338a009d31c5d25", func := "carcanet/carcanetlaw05.WalkTurn", spec := "walkTurn", unfollowed := true, recurses := true, apart := false }
def WalkTurnSaid : Prop := walkTurnRow.holds Try.pinned (OpenSpec.ofChange walkTurnSpec)

/-- ITS FALSE NEIGHBOUR: 'it returns false'. Refute it at one input. -/
def walkTurnWrong : ChangeSpec := { name := "walkTurn", fn := fun _ => fun
  | [d] => { results := [.lit (.bool false)], args := [d] }
  | _ => none }
def WalkTurnWrongFalsely : Prop := walkTurnRow.holds Try.pinned (OpenSpec.ofChange walkTurnWrong)

/-- 'carcanetlaw05.WalkApart': WHATEVER THE INPUT: true; the input reads as it did. -/
def walkApartSpec : ChangeSpec := { name := "walkApart", fn := fun _ => fun
  | [d] => { results := [.lit (.bool true)], args := [d] }
  | _ => none }
def walkApartRow : OpenClaim := { program := "ytngglgkemonibaa", sum := "7a0ebb8c4bfb4645c367a169617b37880dac39ff6c0525168338a009d31c5d25", func := "carcanet/carcanetlaw05.WalkApart", spec := "walkApart", unfollowed := true, recurses := true, apart := false }
def WalkApartSaid : Prop := walkApartRow.holds Try.pinned (OpenSpec.ofChange walkApartSpec)

/-- ITS FALSE NEIGHBOUR: 'it returns false'. Refute it at one input. -/
def walkApartWrong : ChangeSpec := { name := "walkApart", fn := fun _ => fun
  | [d] => { results := [.lit (.bool false)], args := [d] }
  | _ => none }
def WalkApartWrongFalsely : Prop := walkApartRow.holds Try.pinned (OpenSpec.ofChange walkApartWrong)

/-- 'carcanetlaw05.WalkShort': WHATEVER THE INPUT: true; the input reads as it did. -/
def walkShortSpec : ChangeSpec := { name := "walkShort", fn := fun _ => fun
  | [d1, d2, d3] => { results := [.lit (.bool true)], args := [d1, d2, d3] }
  | _ => none }
def walkShortRow : OpenClaim := { program := "ytngglgkemonibaa", sum := "7a0ebb8c4bfb4645c367a169617b37880dac39ff6c0525168338a009d31c5d25", func := "carcanet/carcanetlaw05.WalkShort", spec := "walkShort", unfollowed := true, recurses := true, apart := false }
def WalkShortSaid : Prop := walkShortRow.holds Try.pinned (OpenSpec.ofChange walkShortSpec)

/-- ITS FALSE NEIGHBOUR: 'it returns false'. Refute it at one input. -/
def walkShortWrong : ChangeSpec := { name := "walkShort", fn := fun _ => fun
  | [d1, d2, d3] => { results := [.lit (.bool false)], args := [d1, d2, d3] }
  | _ => none }
def WalkShortWrongFalsely : Prop := walkShortRow.holds Try.pinned (OpenSpec.ofChange walkShortWrong)

/-- 'carcanetlaw05.WalkRings': WHATEVER THE INPUT: true; the input reads as it did. -/
def walkRingsSpec : ChangeSpec := { name := "walkRings", fn := fun _ => fun
  | [d1, d2] => { results := [.lit (.bool true)], args := [d1, d2] }
  | _ => none }
def walkRingsRow : OpenClaim := { program := "ytngglgkemonibaa", sum := "7a0ebb8c4bfb4645c367a169617b37880dac39ff6c0525168338a009d31c5d25", func := "carcanet/carcanetlaw05.WalkRings", spec := "walkRings", unfollowed := true, recurses := true, apart := false }
def WalkRingsSaid : Prop := walkRingsRow.holds Try.pinned (OpenSpec.ofChange walkRingsSpec)

/-- ITS FALSE NEIGHBOUR: 'it returns false'. Refute it at one input. -/
def walkRingsWrong : ChangeSpec := { name := "walkRings", fn := fun _ => fun
  | [d1, d2] => { results := [.lit (.bool false)], args := [d1, d2] }
  | _ => none }
def WalkRingsWrongFalsely : Prop := walkRingsRow.holds Try.pinned (OpenSpec.ofChange walkRingsWrong)

/-- 'carcanetlaw05.WalkParts': WHATEVER THE INPUT: true; the input reads as it did. -/
def walkPartsSpec : ChangeSpec := { name := "walkParts", fn := fun _ => fun
  | [d1, d2, d3] => { results := [.lit (.bool true)], args := [d1, d2, d3] }
  | _ => none }
def walkPartsRow : OpenClaim := { program := "ytngglgkemonibaa", sum := "7a0ebb8c4bfb4645c367a169617b37880dac39ff6c0525168338a009d31c5d25", func := "carcanet/carcanetlaw05.WalkParts", spec := "walkParts", unfollowed := true, recurses := true, apart := false }
def WalkPartsSaid : Prop := walkPartsRow.holds Try.pinned (OpenSpec.ofChange walkPartsSpec)

/-- ITS FALSE NEIGHBOUR: 'it returns false'. Refute it at one input. -/
def walkPartsWrong : ChangeSpec := { name := "walkParts", fn := fun _ => fun
  | [d1, d2, d3] => { results := [.lit (.bool false)], args := [d1, d2, d3] }
  | _ => none }
def WalkPartsWrongFalsely : Prop := walkPartsRow.holds Try.pinned (OpenSpec.ofChange walkPartsWrong)

/-- 'carcanetlaw05.WalkMeets': WHATEVER THE INPUT: true; the input reads as it did. -/
def walkMeetsSpec : ChangeSpec := { name := "walkMeets", fn := fun _ => fun
  | [d1, d2, d3] => { results := [.lit (.bool true)], args := [d1, d2, d3] }
  | _ => none }
def walkMeetsRow : OpenClaim := { program := "ytngglgkemonibaa", sum := "7a0ebb8c4bfb4645c367a169617b37880dac39ff6c0525168338a009d31c5d25", func := "carcanet/carcanetlaw05.WalkMeets", spec := "walkMeets", unfollowed := true, recurses := true, apart := false }
def WalkMeetsSaid : Prop := walkMeetsRow.holds Try.pinned (OpenSpec.ofChange walkMeetsSpec)

/-- ITS FALSE NEIGHBOUR: 'it returns false'. Refute it at one input. -/
def walkMeetsWrong : ChangeSpec := { name := "walkMeets", fn := fun _ => fun
  | [d1, d2, d3] => { results := [.lit (.bool false)], args := [d1, d2, d3] }
  | _ => none }
def WalkMeetsWrongFalsely : Prop := walkMeetsRow.holds Try.pinned (OpenSpec.ofChange walkMeetsWrong)

/- THE SECOND FORM. 'bulk': how many values and letters a reading holds, each counted each time it is reached (what is shared counts as often as it is met; a slice's spare places count too). A statement '..UptoSaid' is the law's where the arguments, and the package variables that the reading takes, are together of bulk at most 1048576: NARROWER than '..Said'. Prove '..Said' where nothing that the law and all that it calls make is longer than what came in: it says more and counts as full. Else prove '..UptoSaid'. A law counts once. -/
mutual
def uptoBulk {H : Type} : DataW H → Nat
  | .lit (.string bytes) => bytes.length + 1
  | .lit _ => 1
  | .nil => 1
  | .ptr d => uptoBulk d + 1
  | .slice elems spare => uptoBulkAll elems + uptoBulkAll spare + 1
  | .agg parts => uptoBulkAll parts + 1
  | .iface _ d => uptoBulk d + 1
  | .map entries => uptoBulkEntries entries + 1
  | .held _ => 1
def uptoBulkAll {H : Type} : List (DataW H) → Nat
  | [] => 0
  | d :: r => uptoBulk d + uptoBulkAll r
def uptoBulkEntries {H : Type} : List (Lit × DataW H) → Nat
  | [] => 0
  | x :: r => uptoBulkEntry x + uptoBulkEntries r
def uptoBulkEntry {H : Type} : Lit × DataW H → Nat
  | (.string bytes, d) => bytes.length + uptoBulk d + 1
  | (_, d) => uptoBulk d + 1
 end
def uptoSmall : (H : Type) → List (DataW H) → Bool := fun _ ds => decide (uptoBulkAll ds ≤ 1048576)
def OpenSpec.upto (s : _root_.Go.ChangeSpec) : _root_.Go.OpenSpec := { _root_.Go.OpenSpec.ofChange s with cond := some uptoSmall }

/-- 'carcanetlaw05.WalkPaths', WHERE WHAT IT READS IS OF BULK AT MOST 1048576: true; the input reads as it did. -/
def walkPathsUptoRow : OpenClaim := { program := "ytngglgkemonibaa", sum := "7a0ebb8c4bfb4645c367a169617b37880dac39ff6c0525168338a009d31c5d25", func := "carcanet/carcanetlaw05.WalkPaths", spec := "walkPaths", unfollowed := true, recurses := true, apart := false, narrowed := true }
def WalkPathsUptoSaid : Prop := walkPathsUptoRow.holds Try.pinned (OpenSpec.upto walkPathsSpec)

/-- 'carcanetlaw05.WalkRoute', WHERE WHAT IT READS IS OF BULK AT MOST 1048576: true; the input reads as it did. -/
def walkRouteUptoRow : OpenClaim := { program := "ytngglgkemonibaa", sum := "7a0ebb8c4bfb4645c367a169617b37880dac39ff6c0525168338a009d31c5d25", func := "carcanet/carcanetlaw05.WalkRoute", spec := "walkRoute", unfollowed := true, recurses := true, apart := false, narrowed := true }
def WalkRouteUptoSaid : Prop := walkRouteUptoRow.holds Try.pinned (OpenSpec.upto walkRouteSpec)

/-- 'carcanetlaw05.WalkTurn', WHERE WHAT IT READS IS OF BULK AT MOST 1048576: true; the input reads as it did. -/
def walkTurnUptoRow : OpenClaim := { program := "ytngglgkemonibaa", sum := "7a0ebb8c4bfb4645c367a169617b37880dac39ff6c0525168338a009d31c5d25", func := "carcanet/carcanetlaw05.WalkTurn", spec := "walkTurn", unfollowed := true, recurses := true, apart := false, narrowed := true }
def WalkTurnUptoSaid : Prop := walkTurnUptoRow.holds Try.pinned (OpenSpec.upto walkTurnSpec)

/-- 'carcanetlaw05.WalkApart', WHERE WHAT IT READS IS OF BULK AT MOST 1048576: true; the input reads as it did. -/
def walkApartUptoRow : OpenClaim := { program := "ytngglgkemonibaa", sum := "7a0ebb8c4bfb4645c367a169617b37880dac39ff6c0525168338a009d31c5d25", func := "carcanet/carcanetlaw05.WalkApart", spec := "walkApart", unfollowed := true, recurses := true, apart := false, narrowed := true }
def WalkApartUptoSaid : Prop := walkApartUptoRow.holds Try.pinned (OpenSpec.upto walkApartSpec)

/-- 'carcanetlaw05.WalkShort', WHERE WHAT IT READS IS OF BULK AT MOST 1048576: true; the input reads as it did. -/
def walkShortUptoRow : OpenClaim := { program := "ytngglgkemonibaa", sum := "7a0ebb8c4bfb4645c367a169617b37880dac39ff6c0525168338a009d31c5d25", func := "carcanet/carcanetlaw05.WalkShort", spec := "walkShort", unfollowed := true, recurses := true, apart := false, narrowed := true }
def WalkShortUptoSaid : Prop := walkShortUptoRow.holds Try.pinned (OpenSpec.upto walkShortSpec)

/-- 'carcanetlaw05.WalkRings', WHERE WHAT IT READS IS OF BULK AT MOST 1048576: true; the input reads as it did. -/
def walkRingsUptoRow : OpenClaim := { program := "ytngglgkemonibaa", sum := "7a0ebb8c4bfb4645c367a169617b37880dac39ff6c0525168338a009d31c5d25", func := "carcanet/carcanetlaw05.WalkRings", spec := "walkRings", unfollowed := true, recurses := true, apart := false, narrowed := true }
def WalkRingsUptoSaid : Prop := walkRingsUptoRow.holds Try.pinned (OpenSpec.upto walkRingsSpec)

/-- 'carcanetlaw05.WalkParts', WHERE WHAT IT READS IS OF BULK AT MOST 1048576: true; the input reads as it did. -/
def walkPartsUptoRow : OpenClaim := { program := "ytngglgkemonibaa", sum := "7a0ebb8c4bfb4645c367a169617b37880dac39ff6c0525168338a009d31c5d25", func := "carcanet/carcanetlaw05.WalkParts", spec := "walkParts", unfollowed := true, recurses := true, apart := false, narrowed := true }
def WalkPartsUptoSaid : Prop := walkPartsUptoRow.holds Try.pinned (OpenSpec.upto walkPartsSpec)

/-- 'carcanetlaw05.WalkMeets', WHERE WHAT IT READS IS OF BULK AT MOST 1048576: true; the input reads as it did. -/
def walkMeetsUptoRow : OpenClaim := { program := "ytngglgkemonibaa", sum := "7a0ebb8c4bfb4645c367a169617b37880dac39ff6c0525168338a009d31c5d25", func := "carcanet/carcanetlaw05.WalkMeets", spec := "walkMeets", unfollowed := true, recurses := true, apart := false, narrowed := true }
def WalkMeetsUptoSaid : Prop := walkMeetsUptoRow.holds Try.pinned (OpenSpec.upto walkMeetsSpec)

end Rows
end Go.Proofs.Ytngglgkemonibaa
