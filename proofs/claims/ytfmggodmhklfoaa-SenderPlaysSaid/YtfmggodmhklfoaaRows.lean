/-
  No cell of these rows narrows 'for every input' (looked for: loops, veiled, ifaces, maps, wideKeys, modest, calm, conditions, laid).
  DERIVED. THE GIVEN ROWS OF THIS SEAT. 5 by the template 'for every input the law returns true; each argument reads behind the call as it read before'; 0 by the template 'total and deterministic' (their statements: YtfmggodmhklfoaaTotals.lean).
  GIVEN WITH THE SEED: the statements are not yours to turn. If you find one false, say at which input.
  Laid BY PROGRAM, IN A SANDBOX (cutbox-rows.mjs): the forced cells as the released guide's own fill.sh prints them over the translation 567da387c5a6bc2f… (all of the seat's roots in one cut). By AI agents, Wed Nov 11 2026. No macro, syntax, notation, axiom, sorry.
-/
import Derived.Test.YtfmggodmhklfoaaChecked
import GoSem.Claim
import GoSem.ClaimJoined
import GoSem.ClaimMapViews
import Derived.JoinedTies
import Derived.KernelRfl
namespace Go.Proofs.Ytfmggodmhklfoaa
/- THE CELL 'sum', in the pinned program and in every row, IS THE sha256 OF THE DUMP (.gsa) THAT YtfmggodmhklfoaaProg.lean LOADS. Nothing in Lean hashes anything: it is a label: what it is worth is what the hold of that sum in a sandbox is worth. -/
noncomputable def Try.pinned : Pinned := { name := "ytfmggodmhklfoaa", sum := "567da387c5a6bc2fd3c90eef71def96973c4f994fe3392a7071c475ea69aa7b0", checked := Try.checked }
namespace Rows
def none {H : Type} : Left H := { results := [], args := [] }

/-- 'halftonelaw23.SenderPlays': WHATEVER THE INPUT: true; the input reads as it did. -/
def senderPlaysSpec : ChangeSpec := { name := "senderPlays", fn := fun _ => fun
  | [d1, d2, d3, d4, d5] => { results := [.lit (.bool true)], args := [d1, d2, d3, d4, d5] }
  | _ => none }
def senderPlaysRow : OpenClaim := { program := "ytfmggodmhklfoaa", sum := "567da387c5a6bc2fd3c90eef71def96973c4f994fe3392a7071c475ea69aa7b0", func := "halftone/halftonelaw23.SenderPlays", spec := "senderPlays", unfollowed := true, recurses := true, apart := false }
def SenderPlaysSaid : Prop := senderPlaysRow.holds Try.pinned (OpenSpec.ofChange senderPlaysSpec)

/-- ITS FALSE NEIGHBOUR: 'it returns false'. Refute it at one input. -/
def senderPlaysWrong : ChangeSpec := { name := "senderPlays", fn := fun _ => fun
  | [d1, d2, d3, d4, d5] => { results := [.lit (.bool false)], args := [d1, d2, d3, d4, d5] }
  | _ => none }
def SenderPlaysWrongFalsely : Prop := senderPlaysRow.holds Try.pinned (OpenSpec.ofChange senderPlaysWrong)

/-- 'halftonelaw23.SenderBounds': WHATEVER THE INPUT: true; the input reads as it did. -/
def senderBoundsSpec : ChangeSpec := { name := "senderBounds", fn := fun _ => fun
  | [d1, d2, d3, d4] => { results := [.lit (.bool true)], args := [d1, d2, d3, d4] }
  | _ => none }
def senderBoundsRow : OpenClaim := { program := "ytfmggodmhklfoaa", sum := "567da387c5a6bc2fd3c90eef71def96973c4f994fe3392a7071c475ea69aa7b0", func := "halftone/halftonelaw23.SenderBounds", spec := "senderBounds", unfollowed := true, recurses := true, apart := false }
def SenderBoundsSaid : Prop := senderBoundsRow.holds Try.pinned (OpenSpec.ofChange senderBoundsSpec)

/-- ITS FALSE NEIGHBOUR: 'it returns false'. Refute it at one input. -/
def senderBoundsWrong : ChangeSpec := { name := "senderBounds", fn := fun _ => fun
  | [d1, d2, d3, d4] => { results := [.lit (.bool false)], args := [d1, d2, d3, d4] }
  | _ => none }
def SenderBoundsWrongFalsely : Prop := senderBoundsRow.holds Try.pinned (OpenSpec.ofChange senderBoundsWrong)

/-- 'halftonelaw23.SenderAgain': WHATEVER THE INPUT: true; the input reads as it did. -/
def senderAgainSpec : ChangeSpec := { name := "senderAgain", fn := fun _ => fun
  | [d1, d2, d3, d4, d5] => { results := [.lit (.bool true)], args := [d1, d2, d3, d4, d5] }
  | _ => none }
def senderAgainRow : OpenClaim := { program := "ytfmggodmhklfoaa", sum := "567da387c5a6bc2fd3c90eef71def96973c4f994fe3392a7071c475ea69aa7b0", func := "halftone/halftonelaw23.SenderAgain", spec := "senderAgain", unfollowed := true, recurses := true, apart := false }
def SenderAgainSaid : Prop := senderAgainRow.holds Try.pinned (OpenSpec.ofChange senderAgainSpec)

/-- ITS FALSE NEIGHBOUR: 'it returns false'. Refute it at one input. -/
def senderAgainWrong : ChangeSpec := { name := "senderAgain", fn := fun _ => fun
  | [d1, d2, d3, d4, d5] => { results := [.lit (.bool false)], args := [d1, d2, d3, d4, d5] }
  | _ => none }
def SenderAgainWrongFalsely : Prop := senderAgainRow.holds Try.pinned (OpenSpec.ofChange senderAgainWrong)

/-- 'halftonelaw23.SenderCalm': WHATEVER THE INPUT: true; the input reads as it did. -/
def senderCalmSpec : ChangeSpec := { name := "senderCalm", fn := fun _ => fun
  | [d1, d2] => { results := [.lit (.bool true)], args := [d1, d2] }
  | _ => none }
def senderCalmRow : OpenClaim := { program := "ytfmggodmhklfoaa", sum := "567da387c5a6bc2fd3c90eef71def96973c4f994fe3392a7071c475ea69aa7b0", func := "halftone/halftonelaw23.SenderCalm", spec := "senderCalm", unfollowed := true, recurses := true, apart := false }
def SenderCalmSaid : Prop := senderCalmRow.holds Try.pinned (OpenSpec.ofChange senderCalmSpec)

/-- ITS FALSE NEIGHBOUR: 'it returns false'. Refute it at one input. -/
def senderCalmWrong : ChangeSpec := { name := "senderCalm", fn := fun _ => fun
  | [d1, d2] => { results := [.lit (.bool false)], args := [d1, d2] }
  | _ => none }
def SenderCalmWrongFalsely : Prop := senderCalmRow.holds Try.pinned (OpenSpec.ofChange senderCalmWrong)

/-- 'halftonelaw23.SenderNil': WHATEVER THE INPUT: true; the input reads as it did. -/
def senderNilSpec : ChangeSpec := { name := "senderNil", fn := fun _ => fun
  | [d1, d2] => { results := [.lit (.bool true)], args := [d1, d2] }
  | _ => none }
def senderNilRow : OpenClaim := { program := "ytfmggodmhklfoaa", sum := "567da387c5a6bc2fd3c90eef71def96973c4f994fe3392a7071c475ea69aa7b0", func := "halftone/halftonelaw23.SenderNil", spec := "senderNil", unfollowed := true, recurses := true, apart := false }
def SenderNilSaid : Prop := senderNilRow.holds Try.pinned (OpenSpec.ofChange senderNilSpec)

/-- ITS FALSE NEIGHBOUR: 'it returns false'. Refute it at one input. -/
def senderNilWrong : ChangeSpec := { name := "senderNil", fn := fun _ => fun
  | [d1, d2] => { results := [.lit (.bool false)], args := [d1, d2] }
  | _ => none }
def SenderNilWrongFalsely : Prop := senderNilRow.holds Try.pinned (OpenSpec.ofChange senderNilWrong)

/- THE SECOND FORM. 'bulk': how many values and letters a reading holds, each counted each time it is reached (what is shared counts as often as it is met; a slice's spare places count too). A statement '..UptoSaid' is the law's where the arguments, and the package variables that the reading takes, are together of bulk at most 1048576: NARROWER than '..Said'. Prove '..Said' where nothing that the law and all that it calls make is longer than what came in: it says more and counts as full. Else prove '..UptoSaid'. A law counts once. -/
mutual
def uptoBulk {H : Type} : DataW H → Nat
  | .lit (.string bytes) => bytes.length + 1
  | .lit _ => 1
  | .nil => 1
  | .ptr d => uptoBulk d + 1
  | .slice elems spare => uptoBulkAll elems + uptoBulkAll spare + 1
  | .agg parts => uptoBulkAll parts + 1
  | .iface _ d => uptoBulk d + 1
  | .map entries => uptoBulkEntries entries + 1
  | .held _ => 1
def uptoBulkAll {H : Type} : List (DataW H) → Nat
  | [] => 0
  | d :: r => uptoBulk d + uptoBulkAll r
def uptoBulkEntries {H : Type} : List (Lit × DataW H) → Nat
  | [] => 0
  | x :: r => uptoBulkEntry x + uptoBulkEntries r
def uptoBulkEntry {H : Type} : Lit × DataW H → Nat
  | (.string bytes, d) => bytes.length + uptoBulk d + 1
  | (_, d) => uptoBulk d + 1
 end
def uptoSmall : (H : Type) → List (DataW H) → Bool := fun _ ds => decide (uptoBulkAll ds ≤ 1048576)
def OpenSpec.upto (s : _root_.Go.ChangeSpec) : _root_.Go.OpenSpec := { _root_.Go.OpenSpec.ofChange s with cond := some uptoSmall }

/-- 'halftonelaw23.SenderPlays', WHERE WHAT IT READS IS OF BULK AT MOST 1048576: true; the input reads as it did. -/
def senderPlaysUptoRow : OpenClaim := { program := "ytfmggodmhklfoaa", sum := "567da387c5a6bc2fd3c90eef71def96973c4f994fe3392a7071c475ea69aa7b0", func := "halftone/halftonelaw23.SenderPlays", spec := "senderPlays", unfollowed := true, recurses := true, apart := false, narrowed := true }
def SenderPlaysUptoSaid : Prop := senderPlaysUptoRow.holds Try.pinned (OpenSpec.upto senderPlaysSpec)

/-- 'halftonelaw23.SenderBounds', WHERE WHAT IT READS IS OF BULK AT MOST 1048576: true; the input reads as it did. -/
def senderBoundsUptoRow : OpenClaim := { program := "ytfmggodmhklfoaa", sum := "567da387c5a6bc2fd3c90eef71def96973c4f994fe3392a7071c475ea69aa7b0", func := "halftone/halftonelaw23.SenderBounds", spec := "senderBounds", unfollowed := true, recurses := true, apart := false, narrowed := true }
def SenderBoundsUptoSaid : Prop := senderBoundsUptoRow.holds Try.pinned (OpenSpec.upto senderBoundsSpec)

/-- 'halftonelaw23.SenderAgain', WHERE WHAT IT READS IS OF BULK AT MOST 1048576: true; the input reads as it did. -/
def senderAgainUptoRow : OpenClaim := { program := "ytfmggodmhklfoaa", sum := "567da387c5a6bc2fd3c90eef71def96973c4f994fe3392a7071c475ea69aa7b0", func := "halftone/halftonelaw23.SenderAgain", spec := "senderAgain", unfollowed := true, recurses := true, apart := false, narrowed := true }
def SenderAgainUptoSaid : Prop := senderAgainUptoRow.holds Try.pinned (OpenSpec.upto senderAgainSpec)

/-- 'halftonelaw23.SenderCalm', WHERE WHAT IT READS IS OF BULK AT MOST 1048576: true; the input reads as it did. -/
def senderCalmUptoRow : OpenClaim := { program := "ytfmggodmhklfoaa", sum := "567da387c5a6bc2fd3c90eef71def96973c4f994fe3392a7071c475ea69aa7b0", func := "halftone/halftonelaw23.SenderCalm", spec := "senderCalm", unfollowed := true, recurses := true, apart := false, narrowed := true }
def SenderCalmUptoSaid : Prop := senderCalmUptoRow.holds Try.pinned (OpenSpec.upto senderCalmSpec)

/-- 'halftonelaw23.SenderNil', WHERE WHAT IT READS IS OF BULK AT MOST 1048576: true; the input reads as it did. -/
def senderNilUptoRow : OpenClaim := { program := "ytfmggodmhklfoaa", sum := "567da387c5a6bc2fd3c90eef71def96973c4f994fe3392a7071c475ea69aa7b0", func := "halftone/halftonelaw23.SenderNil", spec := "senderNil", unfollowed := true, recurses := true, apart := false, narrowed := true }
def SenderNilUptoSaid : Prop := senderNilUptoRow.holds Try.pinned (OpenSpec.upto senderNilSpec)

end Rows
end Go.Proofs.Ytfmggodmhklfoaa
