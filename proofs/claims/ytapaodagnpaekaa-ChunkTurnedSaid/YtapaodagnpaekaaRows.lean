/-
  No cell of these rows narrows 'for every input' (looked for: loops, veiled, ifaces, maps, wideKeys, modest, calm, conditions, laid).
  DERIVED. THE GIVEN ROWS OF THIS SEAT. 5 by the template 'for every input the law returns true; each argument reads behind the call as it read before'; 0 by the template 'total and deterministic' (their statements: YtapaodagnpaekaaTotals.lean).
  GIVEN WITH THE SEED: the statements are not yours to turn. If you find one false, say at which input.
  Laid BY PROGRAM, IN A SANDBOX (cutbox-rows.mjs): the forced cells as the released guide's own fill.sh prints them over the translation 413e206ed27b709d… (all of the seat's roots in one cut). By AI agents, Wed Nov 11 2026. No macro, syntax, notation, axiom, sorry.
-/
import Derived.Test.YtapaodagnpaekaaChecked
import GoSem.Claim
import GoSem.ClaimJoined
import GoSem.ClaimMapViews
import Derived.JoinedTies
import Derived.KernelRfl
namespace Go.Proofs.Ytapaodagnpaekaa
/- THE CELL 'sum', in the pinned program and in every row, IS THE sha256 OF THE DUMP (.gsa) THAT YtapaodagnpaekaaProg.lean LOADS. Nothing in Lean hashes anything: it is a label: what it is worth is what the hold of that sum in a sandbox is worth. -/
noncomputable def Try.pinned : Pinned := { name := "ytapaodagnpaekaa", sum := "413e206ed27b709d892a74d9759e37c1a2c40a84731e3c6a69320d8c65721ea4", checked := Try.checked }
namespace Rows
def none {H : Type} : Left H := { results := [], args := [] }

/-- 'halftonelaw11.ChunkReads': WHATEVER THE INPUT: true; the input reads as it did. -/
def chunkReadsSpec : ChangeSpec := { name := "chunkReads", fn := fun _ => fun
  | [d] => { results := [.lit (.bool true)], args := [d] }
  | _ => none }
def chunkReadsRow : OpenClaim := { program := "ytapaodagnpaekaa", sum := "413e206ed27b709d892a74d9759e37c1a2c40a84731e3c6a69320d8c65721ea4", func := "halftone/halftonelaw11.ChunkReads", spec := "chunkReads", unfollowed := true, recurses := true, apart := false }
def ChunkReadsSaid : Prop := chunkReadsRow.holds Try.pinned (OpenSpec.ofChange chunkReadsSpec)

/-- ITS FALSE NEIGHBOUR: 'it returns false'. Refute it at one input. -/
def chunkReadsWrong : ChangeSpec := { name := "chunkReads", fn := fun _ => fun
  | [d] => { results := [.lit (.bool false)], args := [d] }
  | _ => none }
def ChunkReadsWrongFalsely : Prop := chunkReadsRow.holds Try.pinned (OpenSpec.ofChange chunkReadsWrong)

/-- 'halftonelaw11.ChunkPacks': WHATEVER THE INPUT: true; the input reads as it did. -/
def chunkPacksSpec : ChangeSpec := { name := "chunkPacks", fn := fun _ => fun
  | [d] => { results := [.lit (.bool true)], args := [d] }
  | _ => none }
def chunkPacksRow : OpenClaim := { program := "ytapaodagnpaekaa", sum := "413e206ed27b709d892a74d9759e37c1a2c40a84731e3c6a69320d8c65721ea4", func := "halftone/halftonelaw11.ChunkPacks", spec := "chunkPacks", unfollowed := true, recurses := true, apart := false }
def ChunkPacksSaid : Prop := chunkPacksRow.holds Try.pinned (OpenSpec.ofChange chunkPacksSpec)

/-- ITS FALSE NEIGHBOUR: 'it returns false'. Refute it at one input. -/
def chunkPacksWrong : ChangeSpec := { name := "chunkPacks", fn := fun _ => fun
  | [d] => { results := [.lit (.bool false)], args := [d] }
  | _ => none }
def ChunkPacksWrongFalsely : Prop := chunkPacksRow.holds Try.pinned (OpenSpec.ofChange chunkPacksWrong)

/-- 'halftonelaw11.ChunkBack': WHATEVER THE INPUT: true; the input reads as it did. -/
def chunkBackSpec : ChangeSpec := { name := "chunkBack", fn := fun _ => fun
  | [d1, d2] => { results := [.lit (.bool true)], args := [d1, d2] }
  | _ => none }
def chunkBackRow : OpenClaim := { program := "ytapaodagnpaekaa", sum := "413e206ed27b709d892a74d9759e37c1a2c40a84731e3c6a69320d8c65721ea4", func := "halftone/halftonelaw11.ChunkBack", spec := "chunkBack", unfollowed := true, recurses := true, apart := false }
def ChunkBackSaid : Prop := chunkBackRow.holds Try.pinned (OpenSpec.ofChange chunkBackSpec)

/-- ITS FALSE NEIGHBOUR: 'it returns false'. Refute it at one input. -/
def chunkBackWrong : ChangeSpec := { name := "chunkBack", fn := fun _ => fun
  | [d1, d2] => { results := [.lit (.bool false)], args := [d1, d2] }
  | _ => none }
def ChunkBackWrongFalsely : Prop := chunkBackRow.holds Try.pinned (OpenSpec.ofChange chunkBackWrong)

/-- 'halftonelaw11.ChunkTurned': WHATEVER THE INPUT: true; the input reads as it did. -/
def chunkTurnedSpec : ChangeSpec := { name := "chunkTurned", fn := fun _ => fun
  | [d1, d2, d3] => { results := [.lit (.bool true)], args := [d1, d2, d3] }
  | _ => none }
def chunkTurnedRow : OpenClaim := { program := "ytapaodagnpaekaa", sum := "413e206ed27b709d892a74d9759e37c1a2c40a84731e3c6a69320d8c65721ea4", func := "halftone/halftonelaw11.ChunkTurned", spec := "chunkTurned", unfollowed := true, recurses := true, apart := false }
def ChunkTurnedSaid : Prop := chunkTurnedRow.holds Try.pinned (OpenSpec.ofChange chunkTurnedSpec)

/-- ITS FALSE NEIGHBOUR: 'it returns false'. Refute it at one input. -/
def chunkTurnedWrong : ChangeSpec := { name := "chunkTurned", fn := fun _ => fun
  | [d1, d2, d3] => { results := [.lit (.bool false)], args := [d1, d2, d3] }
  | _ => none }
def ChunkTurnedWrongFalsely : Prop := chunkTurnedRow.holds Try.pinned (OpenSpec.ofChange chunkTurnedWrong)

/-- 'halftonelaw11.ChunkNil': WHATEVER THE INPUT: true; the input reads as it did. -/
def chunkNilSpec : ChangeSpec := { name := "chunkNil", fn := fun _ => fun
  | [d] => { results := [.lit (.bool true)], args := [d] }
  | _ => none }
def chunkNilRow : OpenClaim := { program := "ytapaodagnpaekaa", sum := "413e206ed27b709d892a74d9759e37c1a2c40a84731e3c6a69320d8c65721ea4", func := "halftone/halftonelaw11.ChunkNil", spec := "chunkNil", unfollowed := true, recurses := true, apart := false }
def ChunkNilSaid : Prop := chunkNilRow.holds Try.pinned (OpenSpec.ofChange chunkNilSpec)

/-- ITS FALSE NEIGHBOUR: 'it returns false'. Refute it at one input. -/
def chunkNilWrong : ChangeSpec := { name := "chunkNil", fn := fun _ => fun
  | [d] => { results := [.lit (.bool false)], args := [d] }
  | _ => none }
def ChunkNilWrongFalsely : Prop := chunkNilRow.holds Try.pinned (OpenSpec.ofChange chunkNilWrong)

/- THE SECOND FORM. 'bulk': how many values and letters a reading holds, each counted each time it is reached (what is shared counts as often as it is met; a slice's spare places count too). A statement '..UptoSaid' is the law's where the arguments, and the package variables that the reading takes, are together of bulk at most 1048576: NARROWER than '..Said'. Prove '..Said' where nothing that the law and all that it calls make is longer than what came in: it says more and counts as full. Else prove '..UptoSaid'. A law counts once. -/
mutual
def uptoBulk {H : Type} : DataW H → Nat
  | .lit (.string bytes) => bytes.length + 1
  | .lit _ => 1
  | .nil => 1
  | .ptr d => uptoBulk d + 1
  | .slice elems spare => uptoBulkAll elems + uptoBulkAll spare + 1
  | .agg parts => uptoBulkAll parts + 1
  | .iface _ d => uptoBulk d + 1
  | .map entries => uptoBulkEntries entries + 1
  | .held _ => 1
def uptoBulkAll {H : Type} : List (DataW H) → Nat
  | [] => 0
  | d :: r => uptoBulk d + uptoBulkAll r
def uptoBulkEntries {H : Type} : List (Lit × DataW H) → Nat
  | [] => 0
  | x :: r => uptoBulkEntry x + uptoBulkEntries r
def uptoBulkEntry {H : Type} : Lit × DataW H → Nat
  | (.string bytes, d) => bytes.length + uptoBulk d + 1
  | (_, d) => uptoBulk d + 1
 end
def uptoSmall : (H : Type) → List (DataW H) → Bool := fun _ ds => decide (uptoBulkAll ds ≤ 1048576)
def OpenSpec.upto (s : _root_.Go.ChangeSpec) : _root_.Go.OpenSpec := { _root_.Go.OpenSpec.ofChange s with cond := some uptoSmall }

/-- 'halftonelaw11.ChunkReads', WHERE WHAT IT READS IS OF BULK AT MOST 1048576: true; the input reads as it did. -/
def chunkReadsUptoRow : OpenClaim := { program := "ytapaodagnpaekaa", sum := "413e206ed27b709d892a74d9759e37c1a2c40a84731e3c6a69320d8c65721ea4", func := "halftone/halftonelaw11.ChunkReads", spec := "chunkReads", unfollowed := true, recurses := true, apart := false, narrowed := true }
def ChunkReadsUptoSaid : Prop := chunkReadsUptoRow.holds Try.pinned (OpenSpec.upto chunkReadsSpec)

/-- 'halftonelaw11.ChunkPacks', WHERE WHAT IT READS IS OF BULK AT MOST 1048576: true; the input reads as it did. -/
def chunkPacksUptoRow : OpenClaim := { program := "ytapaodagnpaekaa", sum := "413e206ed27b709d892a74d9759e37c1a2c40a84731e3c6a69320d8c65721ea4", func := "halftone/halftonelaw11.ChunkPacks", spec := "chunkPacks", unfollowed := true, recurses := true, apart := false, narrowed := true }
def ChunkPacksUptoSaid : Prop := chunkPacksUptoRow.holds Try.pinned (OpenSpec.upto chunkPacksSpec)

/-- 'halftonelaw11.ChunkBack', WHERE WHAT IT READS IS OF BULK AT MOST 1048576: true; the input reads as it did. -/
def chunkBackUptoRow : OpenClaim := { program := "ytapaodagnpaekaa", sum := "413e206ed27b709d892a74d9759e37c1a2c40a84731e3c6a69320d8c65721ea4", func := "halftone/halftonelaw11.ChunkBack", spec := "chunkBack", unfollowed := true, recurses := true, apart := false, narrowed := true }
def ChunkBackUptoSaid : Prop := chunkBackUptoRow.holds Try.pinned (OpenSpec.upto chunkBackSpec)

/-- 'halftonelaw11.ChunkTurned', WHERE WHAT IT READS IS OF BULK AT MOST 1048576: true; the input reads as it did. -/
def chunkTurnedUptoRow : OpenClaim := { program := "ytapaodagnpaekaa", sum := "413e206ed27b709d892a74d9759e37c1a2c40a84731e3c6a69320d8c65721ea4", func := "halftone/halftonelaw11.ChunkTurned", spec := "chunkTurned", unfollowed := true, recurses := true, apart := false, narrowed := true }
def ChunkTurnedUptoSaid : Prop := chunkTurnedUptoRow.holds Try.pinned (OpenSpec.upto chunkTurnedSpec)

/-- 'halftonelaw11.ChunkNil', WHERE WHAT IT READS IS OF BULK AT MOST 1048576: true; the input reads as it did. -/
def chunkNilUptoRow : OpenClaim := { program := "ytapaodagnpaekaa", sum := "413e206ed27b709d892a74d9759e37c1a2c40a84731e3c6a69320d8c65721ea4", func := "halftone/halftonelaw11.ChunkNil", spec := "chunkNil", unfollowed := true, recurses := true, apart := false, narrowed := true }
def ChunkNilUptoSaid : Prop := chunkNilUptoRow.holds Try.pinned (OpenSpec.upto chunkNilSpec)

end Rows
end Go.Proofs.Ytapaodagnpaekaa
