/-
  No cell of these rows narrows 'for every input' (looked for: loops, veiled, ifaces, maps, wideKeys, modest, calm, conditions, laid).
  DERIVED. THE GIVEN ROWS OF THIS SEAT. 6 by the template 'for every input the law returns true; each argument reads behind the call as it read before'; 0 by the template 'total and deterministic' (their statements: YtnmocjhpbobahaaTotals.lean).
  GIVEN WITH THE SEED: the statements are not yours to turn. If you find one false, say at which input.
  Laid BY PROGRAM, IN A SANDBOX (cutbox-rows.mjs): the forced cells as the released guide's own fill.sh prints them over the translation 3d3792f6f6d7a87c… (all of the seat's roots in one cut). By AI agents, Wed Nov 11 2026. No macro, syntax, notation, axiom, sorry.
-/
import Derived.Test.YtnmocjhpbobahaaChecked
import GoSem.Claim
import GoSem.ClaimJoined
import GoSem.ClaimMapViews
import Derived.JoinedTies
import Derived.KernelRfl
namespace Go.Proofs.Ytnmocjhpbobahaa
/- THE CELL 'sum', in the pinned program and in every row, IS THE sha256 OF THE DUMP (.gsa) THAT YtnmocjhpbobahaaProg.lean LOADS. Nothing in Lean hashes anything: it is a label: what it is worth is what the hold of that sum in a sandbox is worth. -/
noncomputable def Try.pinned : Pinned := { name := "ytnmocjhpbobahaa", sum := "3d3792f6f6d7a87c0992b4fd4ae1fa59960cd974aec0d590b91e45be534383a2", checked := Try.checked }
namespace Rows
def none {H : Type} : Left H := { results := [], args := [] }

/-- 'carcanetlaw20.RimTells': WHATEVER THE INPUT: true; the input reads as it did. -/
def rimTellsSpec : ChangeSpec := { name := "rimTells", fn := fun _ => fun
  | [d] => { results := [.lit (.bool true)], args := [d] }
  | _ => none }
def rimTellsRow : OpenClaim := { program := "ytnmocjhpbobahaa", sum := "3d3792f6f6d7a87c0992b4fd4ae1fa59960cd974aec0d590b91e45be534383a2", func := "carcanet/carcanetlaw20.RimTells", spec := "rimTells", recurses := true, apart := false }
def RimTellsSaid : Prop := rimTellsRow.holds Try.pinned (OpenSpec.ofChange rimTellsSpec)

/-- ITS FALSE NEIGHBOUR: 'it returns false'. Refute it at one input. -/
def rimTellsWrong : ChangeSpec := { name := "rimTells", fn := fun _ => fun
  | [d] => { results := [.lit (.bool false)], args := [d] }
  | _ => none }
def RimTellsWrongFalsely : Prop := rimTellsRow.holds Try.pinned (OpenSpec.ofChange rimTellsWrong)

/-- 'carcanetlaw20.RimReplay': WHATEVER THE INPUT: true; the input reads as it did. -/
def rimReplaySpec : ChangeSpec := { name := "rimReplay", fn := fun _ => fun
  | [d1, d2] => { results := [.lit (.bool true)], args := [d1, d2] }
  | _ => none }
def rimReplayRow : OpenClaim := { program := "ytnmocjhpbobahaa", sum := "3d3792f6f6d7a87c0992b4fd4ae1fa59960cd974aec0d590b91e45be534383a2", func := "carcanet/carcanetlaw20.RimReplay", spec := "rimReplay", recurses := true, apart := false }
def RimReplaySaid : Prop := rimReplayRow.holds Try.pinned (OpenSpec.ofChange rimReplaySpec)

/-- ITS FALSE NEIGHBOUR: 'it returns false'. Refute it at one input. -/
def rimReplayWrong : ChangeSpec := { name := "rimReplay", fn := fun _ => fun
  | [d1, d2] => { results := [.lit (.bool false)], args := [d1, d2] }
  | _ => none }
def RimReplayWrongFalsely : Prop := rimReplayRow.holds Try.pinned (OpenSpec.ofChange rimReplayWrong)

/-- 'carcanetlaw20.RimRefutes': WHATEVER THE INPUT: true; the input reads as it did. -/
def rimRefutesSpec : ChangeSpec := { name := "rimRefutes", fn := fun _ => fun
  | [d1, d2] => { results := [.lit (.bool true)], args := [d1, d2] }
  | _ => none }
def rimRefutesRow : OpenClaim := { program := "ytnmocjhpbobahaa", sum := "3d3792f6f6d7a87c0992b4fd4ae1fa59960cd974aec0d590b91e45be534383a2", func := "carcanet/carcanetlaw20.RimRefutes", spec := "rimRefutes", recurses := true, apart := false }
def RimRefutesSaid : Prop := rimRefutesRow.holds Try.pinned (OpenSpec.ofChange rimRefutesSpec)

/-- ITS FALSE NEIGHBOUR: 'it returns false'. Refute it at one input. -/
def rimRefutesWrong : ChangeSpec := { name := "rimRefutes", fn := fun _ => fun
  | [d1, d2] => { results := [.lit (.bool false)], args := [d1, d2] }
  | _ => none }
def RimRefutesWrongFalsely : Prop := rimRefutesRow.holds Try.pinned (OpenSpec.ofChange rimRefutesWrong)

/-- 'carcanetlaw20.RimAgainst': WHATEVER THE INPUT: true; the input reads as it did. -/
def rimAgainstSpec : ChangeSpec := { name := "rimAgainst", fn := fun _ => fun
  | [d1, d2] => { results := [.lit (.bool true)], args := [d1, d2] }
  | _ => none }
def rimAgainstRow : OpenClaim := { program := "ytnmocjhpbobahaa", sum := "3d3792f6f6d7a87c0992b4fd4ae1fa59960cd974aec0d590b91e45be534383a2", func := "carcanet/carcanetlaw20.RimAgainst", spec := "rimAgainst", recurses := true, apart := false }
def RimAgainstSaid : Prop := rimAgainstRow.holds Try.pinned (OpenSpec.ofChange rimAgainstSpec)

/-- ITS FALSE NEIGHBOUR: 'it returns false'. Refute it at one input. -/
def rimAgainstWrong : ChangeSpec := { name := "rimAgainst", fn := fun _ => fun
  | [d1, d2] => { results := [.lit (.bool false)], args := [d1, d2] }
  | _ => none }
def RimAgainstWrongFalsely : Prop := rimAgainstRow.holds Try.pinned (OpenSpec.ofChange rimAgainstWrong)

/-- 'carcanetlaw20.RimKeeps': WHATEVER THE INPUT: true; the input reads as it did. -/
def rimKeepsSpec : ChangeSpec := { name := "rimKeeps", fn := fun _ => fun
  | [d1, d2] => { results := [.lit (.bool true)], args := [d1, d2] }
  | _ => none }
def rimKeepsRow : OpenClaim := { program := "ytnmocjhpbobahaa", sum := "3d3792f6f6d7a87c0992b4fd4ae1fa59960cd974aec0d590b91e45be534383a2", func := "carcanet/carcanetlaw20.RimKeeps", spec := "rimKeeps", recurses := true, apart := false }
def RimKeepsSaid : Prop := rimKeepsRow.holds Try.pinned (OpenSpec.ofChange rimKeepsSpec)

/-- ITS FALSE NEIGHBOUR: 'it returns false'. Refute it at one input. -/
def rimKeepsWrong : ChangeSpec := { name := "rimKeeps", fn := fun _ => fun
  | [d1, d2] => { results := [.lit (.bool false)], args := [d1, d2] }
  | _ => none }
def RimKeepsWrongFalsely : Prop := rimKeepsRow.holds Try.pinned (OpenSpec.ofChange rimKeepsWrong)

/-- 'carcanetlaw20.RimWrong': WHATEVER THE INPUT: true; the input reads as it did. -/
def rimWrongSpec : ChangeSpec := { name := "rimWrong", fn := fun _ => fun
  | [d1, d2] => { results := [.lit (.bool true)], args := [d1, d2] }
  | _ => none }
def rimWrongRow : OpenClaim := { program := "ytnmocjhpbobahaa", sum := "3d3792f6f6d7a87c0992b4fd4ae1fa59960cd974aec0d590b91e45be534383a2", func := "carcanet/carcanetlaw20.RimWrong", spec := "rimWrong", recurses := true, apart := false }
def RimWrongSaid : Prop := rimWrongRow.holds Try.pinned (OpenSpec.ofChange rimWrongSpec)

/-- ITS FALSE NEIGHBOUR: 'it returns false'. Refute it at one input. -/
def rimWrongWrong : ChangeSpec := { name := "rimWrong", fn := fun _ => fun
  | [d1, d2] => { results := [.lit (.bool false)], args := [d1, d2] }
  | _ => none }
def RimWrongWrongFalsely : Prop := rimWrongRow.holds Try.pinned (OpenSpec.ofChange rimWrongWrong)

/- THE SECOND FORM. 'bulk': how many values and letters a reading holds, each counted each time it is reached (what is shared counts as often as it is met; a slice's spare places count too). A statement '..UptoSaid' is the law's where the arguments, and the package variables that the reading takes, are together of bulk at most 1048576: NARROWER than '..Said'. Prove '..Said' where nothing that the law and all that it calls make is longer than what came in: it says more and counts as full. Else prove '..UptoSaid'. A law counts once. -/
mutual
def uptoBulk {H : Type} : DataW H → Nat
  | .lit (.string bytes) => bytes.length + 1
  | .lit _ => 1
  | .nil => 1
  | .ptr d => uptoBulk d + 1
  | .slice elems spare => uptoBulkAll elems + uptoBulkAll spare + 1
  | .agg parts => uptoBulkAll parts + 1
  | .iface _ d => uptoBulk d + 1
  | .map entries => uptoBulkEntries entries + 1
  | .held _ => 1
def uptoBulkAll {H : Type} : List (DataW H) → Nat
  | [] => 0
  | d :: r => uptoBulk d + uptoBulkAll r
def uptoBulkEntries {H : Type} : List (Lit × DataW H) → Nat
  | [] => 0
  | x :: r => uptoBulkEntry x + uptoBulkEntries r
def uptoBulkEntry {H : Type} : Lit × DataW H → Nat
  | (.string bytes, d) => bytes.length + uptoBulk d + 1
  | (_, d) => uptoBulk d + 1
 end
def uptoSmall : (H : Type) → List (DataW H) → Bool := fun _ ds => decide (uptoBulkAll ds ≤ 1048576)
def OpenSpec.upto (s : _root_.Go.ChangeSpec) : _root_.Go.OpenSpec := { _root_.Go.OpenSpec.ofChange s with cond := some uptoSmall }

/-- 'carcanetlaw20.RimTells', WHERE WHAT IT READS IS OF BULK AT MOST 1048576: true; the input reads as it did. -/
def rimTellsUptoRow : OpenClaim := { program := "ytnmocjhpbobahaa", sum := "3d3792f6f6d7a87c0992b4fd4ae1fa59960cd974aec0d590b91e45be534383a2", func := "carcanet/carcanetlaw20.RimTells", spec := "rimTells", recurses := true, apart := false, narrowed := true }
def RimTellsUptoSaid : Prop := rimTellsUptoRow.holds Try.pinned (OpenSpec.upto rimTellsSpec)

/-- 'carcanetlaw20.RimReplay', WHERE WHAT IT READS IS OF BULK AT MOST 1048576: true; the input reads as it did. -/
def rimReplayUptoRow : OpenClaim := { program := "ytnmocjhpbobahaa", sum := "3d3792f6f6d7a87c0992b4fd4ae1fa59960cd974aec0d590b91e45be534383a2", func := "carcanet/carcanetlaw20.RimReplay", spec := "rimReplay", recurses := true, apart := false, narrowed := true }
def RimReplayUptoSaid : Prop := rimReplayUptoRow.holds Try.pinned (OpenSpec.upto rimReplaySpec)

/-- 'carcanetlaw20.RimRefutes', WHERE WHAT IT READS IS OF BULK AT MOST 1048576: true; the input reads as it did. -/
def rimRefutesUptoRow : OpenClaim := { program := "ytnmocjhpbobahaa", sum := "3d3792f6f6d7a87c0992b4fd4ae1fa59960cd974aec0d590b91e45be534383a2", func := "carcanet/carcanetlaw20.RimRefutes", spec := "rimRefutes", recurses := true, apart := false, narrowed := true }
def RimRefutesUptoSaid : Prop := rimRefutesUptoRow.holds Try.pinned (OpenSpec.upto rimRefutesSpec)

/-- 'carcanetlaw20.RimAgainst', WHERE WHAT IT READS IS OF BULK AT MOST 1048576: true; the input reads as it did. -/
def rimAgainstUptoRow : OpenClaim := { program := "ytnmocjhpbobahaa", sum := "3d3792f6f6d7a87c0992b4fd4ae1fa59960cd974aec0d590b91e45be534383a2", func := "carcanet/carcanetlaw20.RimAgainst", spec := "rimAgainst", recurses := true, apart := false, narrowed := true }
def RimAgainstUptoSaid : Prop := rimAgainstUptoRow.holds Try.pinned (OpenSpec.upto rimAgainstSpec)

/-- 'carcanetlaw20.RimKeeps', WHERE WHAT IT READS IS OF BULK AT MOST 1048576: true; the input reads as it did. -/
def rimKeepsUptoRow : OpenClaim := { program := "ytnmocjhpbobahaa", sum := "3d3792f6f6d7a87c0992b4fd4ae1fa59960cd974aec0d590b91e45be534383a2", func := "carcanet/carcanetlaw20.RimKeeps", spec := "rimKeeps", recurses := true, apart := false, narrowed := true }
def RimKeepsUptoSaid : Prop := rimKeepsUptoRow.holds Try.pinned (OpenSpec.upto rimKeepsSpec)

/-- 'carcanetlaw20.RimWrong', WHERE WHAT IT READS IS OF BULK AT MOST 1048576: true; the input reads as it did. -/
def rimWrongUptoRow : OpenClaim := { program := "ytnmocjhpbobahaa", sum := "3d3792f6f6d7a87c0992b4fd4ae1fa59960cd974aec0d590b91e45be534383a2", func := "carcanet/carcanetlaw20.RimWrong", spec := "rimWrong", recurses := true, apart := false, narrowed := true }
def RimWrongUptoSaid : Prop := rimWrongUptoRow.holds Try.pinned (OpenSpec.upto rimWrongSpec)

end Rows
end Go.Proofs.Ytnmocjhpbobahaa
