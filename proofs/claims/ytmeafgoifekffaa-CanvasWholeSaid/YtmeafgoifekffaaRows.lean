/-
  No cell of these rows narrows 'for every input' (looked for: loops, veiled, ifaces, maps, wideKeys, modest, calm, conditions, laid).
  DERIVED. THE GIVEN ROWS OF THIS SEAT. 5 by the template 'for every input the law returns true; each argument reads behind the call as it read before'; 0 by the template 'total and deterministic' (their statements: YtmeafgoifekffaaTotals.lean).
  GIVEN WITH THE SEED: the statements are not yours to turn. If you find one false, say at which input.
  Laid BY PROGRAM, IN A SANDBOX (cutbox-rows.mjs): the forced cells as the released guide's own fill.sh prints them over the translation beda8f6431e7b98a… (all of the seat's roots in one cut). By AI agents, Wed Nov 11 2026. No macro, syntax, notation, axiom, sorry.
-/
import Derived.Test.YtmeafgoifekffaaChecked
import GoSem.Claim
import GoSem.ClaimJoined
import GoSem.ClaimMapViews
import Derived.JoinedTies
import Derived.KernelRfl
namespace Go.Proofs.Ytmeafgoifekffaa
/- THE CELL 'sum', in the pinned program and in every row, IS THE sha256 OF THE DUMP (.gsa) THAT YtmeafgoifekffaaProg.lean LOADS. Nothing in Lean hashes anything: it is a label: what it is worth is what the hold of that sum in a sandbox is worth. -/
noncomputable def Try.pinned : Pinned := { name := "ytmeafgoifekffaa", sum := "beda8f6431e7b98aa14b9c70a451b46be38f987e499d40490992dca9f712366f", checked := Try.checked }
namespace Rows
def none {H : Type} : Left H := { results := [], args := [] }

/-- 'halftonelaw19.CanvasViews': WHATEVER THE INPUT: true; the input reads as it did. -/
def canvasViewsSpec : ChangeSpec := { name := "canvasViews", fn := fun _ => fun
  | [d1, d2, d3, d4] => { results := [.lit (.bool true)], args := [d1, d2, d3, d4] }
  | _ => none }
def canvasViewsRow : OpenClaim := { program := "ytmeafgoifekffaa", sum := "beda8f6431e7b98aa14b9c70a451b46be38f987e499d40490992dca9f712366f", func := "halftone/halftonelaw19.CanvasViews", spec := "canvasViews", unfollowed := true, recurses := true, apart := false }
def CanvasViewsSaid : Prop := canvasViewsRow.holds Try.pinned (OpenSpec.ofChange canvasViewsSpec)

/-- ITS FALSE NEIGHBOUR: 'it returns false'. Refute it at one input. -/
def canvasViewsWrong : ChangeSpec := { name := "canvasViews", fn := fun _ => fun
  | [d1, d2, d3, d4] => { results := [.lit (.bool false)], args := [d1, d2, d3, d4] }
  | _ => none }
def CanvasViewsWrongFalsely : Prop := canvasViewsRow.holds Try.pinned (OpenSpec.ofChange canvasViewsWrong)

/-- 'halftonelaw19.CanvasWhole': WHATEVER THE INPUT: true; the input reads as it did. -/
def canvasWholeSpec : ChangeSpec := { name := "canvasWhole", fn := fun _ => fun
  | [d1, d2, d3, d4, d5] => { results := [.lit (.bool true)], args := [d1, d2, d3, d4, d5] }
  | _ => none }
def canvasWholeRow : OpenClaim := { program := "ytmeafgoifekffaa", sum := "beda8f6431e7b98aa14b9c70a451b46be38f987e499d40490992dca9f712366f", func := "halftone/halftonelaw19.CanvasWhole", spec := "canvasWhole", unfollowed := true, recurses := true, apart := false }
def CanvasWholeSaid : Prop := canvasWholeRow.holds Try.pinned (OpenSpec.ofChange canvasWholeSpec)

/-- ITS FALSE NEIGHBOUR: 'it returns false'. Refute it at one input. -/
def canvasWholeWrong : ChangeSpec := { name := "canvasWhole", fn := fun _ => fun
  | [d1, d2, d3, d4, d5] => { results := [.lit (.bool false)], args := [d1, d2, d3, d4, d5] }
  | _ => none }
def CanvasWholeWrongFalsely : Prop := canvasWholeRow.holds Try.pinned (OpenSpec.ofChange canvasWholeWrong)

/-- 'halftonelaw19.CanvasPlays': WHATEVER THE INPUT: true; the input reads as it did. -/
def canvasPlaysSpec : ChangeSpec := { name := "canvasPlays", fn := fun _ => fun
  | [d1, d2, d3] => { results := [.lit (.bool true)], args := [d1, d2, d3] }
  | _ => none }
def canvasPlaysRow : OpenClaim := { program := "ytmeafgoifekffaa", sum := "beda8f6431e7b98aa14b9c70a451b46be38f987e499d40490992dca9f712366f", func := "halftone/halftonelaw19.CanvasPlays", spec := "canvasPlays", unfollowed := true, recurses := true, apart := false }
def CanvasPlaysSaid : Prop := canvasPlaysRow.holds Try.pinned (OpenSpec.ofChange canvasPlaysSpec)

/-- ITS FALSE NEIGHBOUR: 'it returns false'. Refute it at one input. -/
def canvasPlaysWrong : ChangeSpec := { name := "canvasPlays", fn := fun _ => fun
  | [d1, d2, d3] => { results := [.lit (.bool false)], args := [d1, d2, d3] }
  | _ => none }
def CanvasPlaysWrongFalsely : Prop := canvasPlaysRow.holds Try.pinned (OpenSpec.ofChange canvasPlaysWrong)

/-- 'halftonelaw19.CanvasStays': WHATEVER THE INPUT: true; the input reads as it did. -/
def canvasStaysSpec : ChangeSpec := { name := "canvasStays", fn := fun _ => fun
  | [d1, d2, d3] => { results := [.lit (.bool true)], args := [d1, d2, d3] }
  | _ => none }
def canvasStaysRow : OpenClaim := { program := "ytmeafgoifekffaa", sum := "beda8f6431e7b98aa14b9c70a451b46be38f987e499d40490992dca9f712366f", func := "halftone/halftonelaw19.CanvasStays", spec := "canvasStays", unfollowed := true, recurses := true, apart := false }
def CanvasStaysSaid : Prop := canvasStaysRow.holds Try.pinned (OpenSpec.ofChange canvasStaysSpec)

/-- ITS FALSE NEIGHBOUR: 'it returns false'. Refute it at one input. -/
def canvasStaysWrong : ChangeSpec := { name := "canvasStays", fn := fun _ => fun
  | [d1, d2, d3] => { results := [.lit (.bool false)], args := [d1, d2, d3] }
  | _ => none }
def CanvasStaysWrongFalsely : Prop := canvasStaysRow.holds Try.pinned (OpenSpec.ofChange canvasStaysWrong)

/-- 'halftonelaw19.CanvasNil': WHATEVER THE INPUT: true; the input reads as it did. -/
def canvasNilSpec : ChangeSpec := { name := "canvasNil", fn := fun _ => fun
  | [d1, d2, d3] => { results := [.lit (.bool true)], args := [d1, d2, d3] }
  | _ => none }
def canvasNilRow : OpenClaim := { program := "ytmeafgoifekffaa", sum := "beda8f6431e7b98aa14b9c70a451b46be38f987e499d40490992dca9f712366f", func := "halftone/halftonelaw19.CanvasNil", spec := "canvasNil", unfollowed := true, recurses := true, apart := false }
def CanvasNilSaid : Prop := canvasNilRow.holds Try.pinned (OpenSpec.ofChange canvasNilSpec)

/-- ITS FALSE NEIGHBOUR: 'it returns false'. Refute it at one input. -/
def canvasNilWrong : ChangeSpec := { name := "canvasNil", fn := fun _ => fun
  | [d1, d2, d3] => { results := [.lit (.bool false)], args := [d1, d2, d3] }
  | _ => none }
def CanvasNilWrongFalsely : Prop := canvasNilRow.holds Try.pinned (OpenSpec.ofChange canvasNilWrong)

/- THE SECOND FORM. 'bulk': how many values and letters a reading holds, each counted each time it is reached (what is shared counts as often as it is met; a slice's spare places count too). A statement '..UptoSaid' is the law's where the arguments, and the package variables that the reading takes, are together of bulk at most 1048576: NARROWER than '..Said'. Prove '..Said' where nothing that the law and all that it calls make is longer than what came in: it says more and counts as full. Else prove '..UptoSaid'. A law counts once. -/
mutual
def uptoBulk {H : Type} : DataW H → Nat
  | .lit (.string bytes) => bytes.length + 1
  | .lit _ => 1
  | .nil => 1
  | .ptr d => uptoBulk d + 1
  | .slice elems spare => uptoBulkAll elems + uptoBulkAll spare + 1
  | .agg parts => uptoBulkAll parts + 1
  | .iface _ d => uptoBulk d + 1
  | .map entries => uptoBulkEntries entries + 1
  | .held _ => 1
def uptoBulkAll {H : Type} : List (DataW H) → Nat
  | [] => 0
  | d :: r => uptoBulk d + uptoBulkAll r
def uptoBulkEntries {H : Type} : List (Lit × DataW H) → Nat
  | [] => 0
  | x :: r => uptoBulkEntry x + uptoBulkEntries r
def uptoBulkEntry {H : Type} : Lit × DataW H → Nat
  | (.string bytes, d) => bytes.length + uptoBulk d + 1
  | (_, d) => uptoBulk d + 1
 end
def uptoSmall : (H : Type) → List (DataW H) → Bool := fun _ ds => decide (uptoBulkAll ds ≤ 1048576)
def OpenSpec.upto (s : _root_.Go.ChangeSpec) : _root_.Go.OpenSpec := { _root_.Go.OpenSpec.ofChange s with cond := some uptoSmall }

/-- 'halftonelaw19.CanvasViews', WHERE WHAT IT READS IS OF BULK AT MOST 1048576: true; the input reads as it did. -/
def canvasViewsUptoRow : OpenClaim := { program := "ytmeafgoifekffaa", sum := "beda8f6431e7b98aa14b9c70a451b46be38f987e499d40490992dca9f712366f", func := "halftone/halftonelaw19.CanvasViews", spec := "canvasViews", unfollowed := true, recurses := true, apart := false, narrowed := true }
def CanvasViewsUptoSaid : Prop := canvasViewsUptoRow.holds Try.pinned (OpenSpec.upto canvasViewsSpec)

/-- 'halftonelaw19.CanvasWhole', WHERE WHAT IT READS IS OF BULK AT MOST 1048576: true; the input reads as it did. -/
def canvasWholeUptoRow : OpenClaim := { program := "ytmeafgoifekffaa", sum := "beda8f6431e7b98aa14b9c70a451b46be38f987e499d40490992dca9f712366f", func := "halftone/halftonelaw19.CanvasWhole", spec := "canvasWhole", unfollowed := true, recurses := true, apart := false, narrowed := true }
def CanvasWholeUptoSaid : Prop := canvasWholeUptoRow.holds Try.pinned (OpenSpec.upto canvasWholeSpec)

/-- 'halftonelaw19.CanvasPlays', WHERE WHAT IT READS IS OF BULK AT MOST 1048576: true; the input reads as it did. -/
def canvasPlaysUptoRow : OpenClaim := { program := "ytmeafgoifekffaa", sum := "beda8f6431e7b98aa14b9c70a451b46be38f987e499d40490992dca9f712366f", func := "halftone/halftonelaw19.CanvasPlays", spec := "canvasPlays", unfollowed := true, recurses := true, apart := false, narrowed := true }
def CanvasPlaysUptoSaid : Prop := canvasPlaysUptoRow.holds Try.pinned (OpenSpec.upto canvasPlaysSpec)

/-- 'halftonelaw19.CanvasStays', WHERE WHAT IT READS IS OF BULK AT MOST 1048576: true; the input reads as it did. -/
def canvasStaysUptoRow : OpenClaim := { program := "ytmeafgoifekffaa", sum := "beda8f6431e7b98aa14b9c70a451b46be38f987e499d40490992dca9f712366f", func := "halftone/halftonelaw19.CanvasStays", spec := "canvasStays", unfollowed := true, recurses := true, apart := false, narrowed := true }
def CanvasStaysUptoSaid : Prop := canvasStaysUptoRow.holds Try.pinned (OpenSpec.upto canvasStaysSpec)

/-- 'halftonelaw19.CanvasNil', WHERE WHAT IT READS IS OF BULK AT MOST 1048576: true; the input reads as it did. -/
def canvasNilUptoRow : OpenClaim := { program := "ytmeafgoifekffaa", sum := "beda8f6431e7b98aa14b9c70a451b46be38f987e499d40490992dca9f712366f", func := "halftone/halftonelaw19.CanvasNil", spec := "canvasNil", unfollowed := true, recurses := true, apart := false, narrowed := true }
def CanvasNilUptoSaid : Prop := canvasNilUptoRow.holds Try.pinned (OpenSpec.upto canvasNilSpec)

end Rows
end Go.Proofs.Ytmeafgoifekffaa
