/-
  No cell of these rows narrows 'for every input' (looked for: loops, veiled, ifaces, maps, wideKeys, modest, calm, conditions, laid).
  DERIVED. THE GIVEN ROWS OF THIS SEAT. 4 by the template 'for every input the law returns true; each argument reads behind the call as it read before'; 0 by the template 'total and deterministic' (their statements: YtcfdhfgnfakiiaaTotals.lean).
  GIVEN WITH THE SEED: the statements are not yours to turn. If you find one false, say at which input.
  Laid BY PROGRAM, IN A SANDBOX (cutbox-rows.mjs): the forced cells as the released guide's own fill.sh prints them over the translation 5b509c1dd0880c50… (all of the seat's roots in one cut). By AI agents, Wed Nov 11 2026. No macro, syntax, notation, axiom, sorry.
-/
import Derived.Test.YtcfdhfgnfakiiaaChecked
import GoSem.Claim
import GoSem.ClaimJoined
import GoSem.ClaimMapViews
import Derived.JoinedTies
import Derived.KernelRfl
namespace Go.Proofs.Ytcfdhfgnfakiiaa
/- THE CELL 'sum', in the pinned program and in every row, IS THE sha256 OF THE DUMP (.gsa) THAT YtcfdhfgnfakiiaaProg.lean LOADS. Nothing in Lean hashes anything: it is a label: what it is worth is what the hold of that sum in a sandbox is worth. -/
noncomputable def Try.pinned : Pinned := { name := "ytcfdhfgnfakiiaa", sum := "5b509c1dd0880c50eb5c50870d98b52087eb88be060bbab1ddbba95c7924ec06", checked := Try.checked }
namespace Rows
def none {H : Type} : Left H := { results := [], args := [] }

/-- 'halftonelaw10.BlocksPacks': WHATEVER THE INPUT: true; the input reads as it did. -/
def blocksPacksSpec : ChangeSpec := { name := "blocksPacks", fn := fun _ => fun
  | [d1, d2] => { results := [.lit (.bool true)], args := [d1, d2] }
  | _ => none }
def blocksPacksRow : OpenClaim := { program := "ytcfdhfgnfakiiaa", sum := "5b509c1dd0880c50eb5c50870d98b52087eb88be060bbab1ddbba95c7924ec06", func := "halftone/halftonelaw10.BlocksPacks", spec := "blocksPacks", unfollowed := true, recurses := true, apart := false }
def BlocksPacksSaid : Prop := blocksPacksRow.holds Try.pinned (OpenSpec.ofChange blocksPacksSpec)

/-- ITS FALSE NEIGHBOUR: 'it returns false'. Refute it at one input. -/
def blocksPacksWrong : ChangeSpec := { name := "blocksPacks", fn := fun _ => fun
  | [d1, d2] => { results := [.lit (.bool false)], args := [d1, d2] }
  | _ => none }
def BlocksPacksWrongFalsely : Prop := blocksPacksRow.holds Try.pinned (OpenSpec.ofChange blocksPacksWrong)

/-- 'halftonelaw10.BlocksReads': WHATEVER THE INPUT: true; the input reads as it did. -/
def blocksReadsSpec : ChangeSpec := { name := "blocksReads", fn := fun _ => fun
  | [d] => { results := [.lit (.bool true)], args := [d] }
  | _ => none }
def blocksReadsRow : OpenClaim := { program := "ytcfdhfgnfakiiaa", sum := "5b509c1dd0880c50eb5c50870d98b52087eb88be060bbab1ddbba95c7924ec06", func := "halftone/halftonelaw10.BlocksReads", spec := "blocksReads", unfollowed := true, recurses := true, apart := false }
def BlocksReadsSaid : Prop := blocksReadsRow.holds Try.pinned (OpenSpec.ofChange blocksReadsSpec)

/-- ITS FALSE NEIGHBOUR: 'it returns false'. Refute it at one input. -/
def blocksReadsWrong : ChangeSpec := { name := "blocksReads", fn := fun _ => fun
  | [d] => { results := [.lit (.bool false)], args := [d] }
  | _ => none }
def BlocksReadsWrongFalsely : Prop := blocksReadsRow.holds Try.pinned (OpenSpec.ofChange blocksReadsWrong)

/-- 'halftonelaw10.BlocksBack': WHATEVER THE INPUT: true; the input reads as it did. -/
def blocksBackSpec : ChangeSpec := { name := "blocksBack", fn := fun _ => fun
  | [d1, d2, d3] => { results := [.lit (.bool true)], args := [d1, d2, d3] }
  | _ => none }
def blocksBackRow : OpenClaim := { program := "ytcfdhfgnfakiiaa", sum := "5b509c1dd0880c50eb5c50870d98b52087eb88be060bbab1ddbba95c7924ec06", func := "halftone/halftonelaw10.BlocksBack", spec := "blocksBack", unfollowed := true, recurses := true, apart := false }
def BlocksBackSaid : Prop := blocksBackRow.holds Try.pinned (OpenSpec.ofChange blocksBackSpec)

/-- ITS FALSE NEIGHBOUR: 'it returns false'. Refute it at one input. -/
def blocksBackWrong : ChangeSpec := { name := "blocksBack", fn := fun _ => fun
  | [d1, d2, d3] => { results := [.lit (.bool false)], args := [d1, d2, d3] }
  | _ => none }
def BlocksBackWrongFalsely : Prop := blocksBackRow.holds Try.pinned (OpenSpec.ofChange blocksBackWrong)

/-- 'halftonelaw10.BlocksNil': WHATEVER THE INPUT: true; the input reads as it did. -/
def blocksNilSpec : ChangeSpec := { name := "blocksNil", fn := fun _ => fun
  | [d] => { results := [.lit (.bool true)], args := [d] }
  | _ => none }
def blocksNilRow : OpenClaim := { program := "ytcfdhfgnfakiiaa", sum := "5b509c1dd0880c50eb5c50870d98b52087eb88be060bbab1ddbba95c7924ec06", func := "halftone/halftonelaw10.BlocksNil", spec := "blocksNil", unfollowed := true, recurses := true, apart := false }
def BlocksNilSaid : Prop := blocksNilRow.holds Try.pinned (OpenSpec.ofChange blocksNilSpec)

/-- ITS FALSE NEIGHBOUR: 'it returns false'. Refute it at one input. -/
def blocksNilWrong : ChangeSpec := { name := "blocksNil", fn := fun _ => fun
  | [d] => { results := [.lit (.bool false)], args := [d] }
  | _ => none }
def BlocksNilWrongFalsely : Prop := blocksNilRow.holds Try.pinned (OpenSpec.ofChange blocksNilWrong)

/- THE SECOND FORM. 'bulk': how many values and letters a reading holds, each counted each time it is reached (what is shared counts as often as it is met; a slice's spare places count too). A statement '..UptoSaid' is the law's where the arguments, and the package variables that the reading takes, are together of bulk at most 1048576: NARROWER than '..Said'. Prove '..Said' where nothing that the law and all that it calls make is longer than what came in: it says more and counts as full. Else prove '..UptoSaid'. A law counts once. -/
mutual
def uptoBulk {H : Type} : DataW H → Nat
  | .lit (.string bytes) => bytes.length + 1
  | .lit _ => 1
  | .nil => 1
  | .ptr d => uptoBulk d + 1
  | .slice elems spare => uptoBulkAll elems + uptoBulkAll spare + 1
  | .agg parts => uptoBulkAll parts + 1
  | .iface _ d => uptoBulk d + 1
  | .map entries => uptoBulkEntries entries + 1
  | .held _ => 1
def uptoBulkAll {H : Type} : List (DataW H) → Nat
  | [] => 0
  | d :: r => uptoBulk d + uptoBulkAll r
def uptoBulkEntries {H : Type} : List (Lit × DataW H) → Nat
  | [] => 0
  | x :: r => uptoBulkEntry x + uptoBulkEntries r
def uptoBulkEntry {H : Type} : Lit × DataW H → Nat
  | (.string bytes, d) => bytes.length + uptoBulk d + 1
  | (_, d) => uptoBulk d + 1
 end
def uptoSmall : (H : Type) → List (DataW H) → Bool := fun _ ds => decide (uptoBulkAll ds ≤ 1048576)
def OpenSpec.upto (s : _root_.Go.ChangeSpec) : _root_.Go.OpenSpec := { _root_.Go.OpenSpec.ofChange s with cond := some uptoSmall }

/-- 'halftonelaw10.BlocksPacks', WHERE WHAT IT READS IS OF BULK AT MOST 1048576: true; the input reads as it did. -/
def blocksPacksUptoRow : OpenClaim := { program := "ytcfdhfgnfakiiaa", sum := "5b509c1dd0880c50eb5c50870d98b52087eb88be060bbab1ddbba95c7924ec06", func := "halftone/halftonelaw10.BlocksPacks", spec := "blocksPacks", unfollowed := true, recurses := true, apart := false, narrowed := true }
def BlocksPacksUptoSaid : Prop := blocksPacksUptoRow.holds Try.pinned (OpenSpec.upto blocksPacksSpec)

/-- 'halftonelaw10.BlocksReads', WHERE WHAT IT READS IS OF BULK AT MOST 1048576: true; the input reads as it did. -/
def blocksReadsUptoRow : OpenClaim := { program := "ytcfdhfgnfakiiaa", sum := "5b509c1dd0880c50eb5c50870d98b52087eb88be060bbab1ddbba95c7924ec06", func := "halftone/halftonelaw10.BlocksReads", spec := "blocksReads", unfollowed := true, recurses := true, apart := false, narrowed := true }
def BlocksReadsUptoSaid : Prop := blocksReadsUptoRow.holds Try.pinned (OpenSpec.upto blocksReadsSpec)

/-- 'halftonelaw10.BlocksBack', WHERE WHAT IT READS IS OF BULK AT MOST 1048576: true; the input reads as it did. -/
def blocksBackUptoRow : OpenClaim := { program := "ytcfdhfgnfakiiaa", sum := "5b509c1dd0880c50eb5c50870d98b52087eb88be060bbab1ddbba95c7924ec06", func := "halftone/halftonelaw10.BlocksBack", spec := "blocksBack", unfollowed := true, recurses := true, apart := false, narrowed := true }
def BlocksBackUptoSaid : Prop := blocksBackUptoRow.holds Try.pinned (OpenSpec.upto blocksBackSpec)

/-- 'halftonelaw10.BlocksNil', WHERE WHAT IT READS IS OF BULK AT MOST 1048576: true; the input reads as it did. -/
def blocksNilUptoRow : OpenClaim := { program := "ytcfdhfgnfakiiaa", sum := "5b509c1dd0880c50eb5c50870d98b52087eb88be060bbab1ddbba95c7924ec06", func := "halftone/halftonelaw10.BlocksNil", spec := "blocksNil", unfollowed := true, recurses := true, apart := false, narrowed := true }
def BlocksNilUptoSaid : Prop := blocksNilUptoRow.holds Try.pinned (OpenSpec.upto blocksNilSpec)

end Rows
end Go.Proofs.Ytcfdhfgnfakiiaa
