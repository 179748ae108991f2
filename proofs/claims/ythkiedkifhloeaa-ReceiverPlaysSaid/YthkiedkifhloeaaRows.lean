/-
  No cell of these rows narrows 'for every input' (looked for: loops, veiled, ifaces, maps, wideKeys, modest, calm, conditions, laid).
  DERIVED. THE GIVEN ROWS OF THIS SEAT. 4 by the template 'for every input the law returns true; each argument reads behind the call as it read before'; 0 by the template 'total and deterministic' (their statements: YthkiedkifhloeaaTotals.lean).
  GIVEN WITH THE SEED: the statements are not yours to turn. If you find one false, say at which input.
  Laid BY PROGRAM, IN A SANDBOX (cutbox-rows.mjs): the forced cells as the released guide's own fill.sh prints them over the translation 965e1c4e742ca79f… (all of the seat's roots in one cut). By AI agents, Wed Nov 11 2026. No macro, syntax, notation, axiom, sorry.
-/
import Derived.Test.YthkiedkifhloeaaChecked
import GoSem.Claim
import GoSem.ClaimJoined
import GoSem.ClaimMapViews
import Derived.JoinedTies
import Derived.KernelRfl
namespace Go.Proofs.Ythkiedkifhloeaa
/- THE CELL 'sum', in the pinned program and in every row, IS THE sha256 OF THE DUMP (.gsa) THAT YthkiedkifhloeaaProg.lean LOADS. Nothing in Lean hashes anything: it is a label: what it is worth is what the hold of that sum in a sandbox is worth. -/
noncomputable def Try.pinned : Pinned := { name := "ythkiedkifhloeaa", sum := "965e1c4e742ca79f52e8abb1bc169a9307d9bd3df8665cdb77e03179e61ebac3", checked := Try.checked }
namespace Rows
def none {H : Type} : Left H := { results := [], args := [] }

/-- 'halftonelaw24.ReceiverWhole': WHATEVER THE INPUT: true; the input reads as it did. -/
def receiverWholeSpec : ChangeSpec := { name := "receiverWhole", fn := fun _ => fun
  | [d1, d2, d3, d4] => { results := [.lit (.bool true)], args := [d1, d2, d3, d4] }
  | _ => none }
def receiverWholeRow : OpenClaim := { program := "ythkiedkifhloeaa", sum := "965e1c4e742ca79f52e8abb1bc169a9307d9bd3df8665cdb77e03179e61ebac3", func := "halftone/halftonelaw24.ReceiverWhole", spec := "receiverWhole", unfollowed := true, recurses := true, apart := false }
def ReceiverWholeSaid : Prop := receiverWholeRow.holds Try.pinned (OpenSpec.ofChange receiverWholeSpec)

/-- ITS FALSE NEIGHBOUR: 'it returns false'. Refute it at one input. -/
def receiverWholeWrong : ChangeSpec := { name := "receiverWhole", fn := fun _ => fun
  | [d1, d2, d3, d4] => { results := [.lit (.bool false)], args := [d1, d2, d3, d4] }
  | _ => none }
def ReceiverWholeWrongFalsely : Prop := receiverWholeRow.holds Try.pinned (OpenSpec.ofChange receiverWholeWrong)

/-- 'halftonelaw24.ReceiverPlays': WHATEVER THE INPUT: true; the input reads as it did. -/
def receiverPlaysSpec : ChangeSpec := { name := "receiverPlays", fn := fun _ => fun
  | [d1, d2, d3] => { results := [.lit (.bool true)], args := [d1, d2, d3] }
  | _ => none }
def receiverPlaysRow : OpenClaim := { program := "ythkiedkifhloeaa", sum := "965e1c4e742ca79f52e8abb1bc169a9307d9bd3df8665cdb77e03179e61ebac3", func := "halftone/halftonelaw24.ReceiverPlays", spec := "receiverPlays", unfollowed := true, recurses := true, apart := false }
def ReceiverPlaysSaid : Prop := receiverPlaysRow.holds Try.pinned (OpenSpec.ofChange receiverPlaysSpec)

/-- ITS FALSE NEIGHBOUR: 'it returns false'. Refute it at one input. -/
def receiverPlaysWrong : ChangeSpec := { name := "receiverPlays", fn := fun _ => fun
  | [d1, d2, d3] => { results := [.lit (.bool false)], args := [d1, d2, d3] }
  | _ => none }
def ReceiverPlaysWrongFalsely : Prop := receiverPlaysRow.holds Try.pinned (OpenSpec.ofChange receiverPlaysWrong)

/-- 'halftonelaw24.ReceiverOrder': WHATEVER THE INPUT: true; the input reads as it did. -/
def receiverOrderSpec : ChangeSpec := { name := "receiverOrder", fn := fun _ => fun
  | [d1, d2, d3] => { results := [.lit (.bool true)], args := [d1, d2, d3] }
  | _ => none }
def receiverOrderRow : OpenClaim := { program := "ythkiedkifhloeaa", sum := "965e1c4e742ca79f52e8abb1bc169a9307d9bd3df8665cdb77e03179e61ebac3", func := "halftone/halftonelaw24.ReceiverOrder", spec := "receiverOrder", unfollowed := true, recurses := true, apart := false }
def ReceiverOrderSaid : Prop := receiverOrderRow.holds Try.pinned (OpenSpec.ofChange receiverOrderSpec)

/-- ITS FALSE NEIGHBOUR: 'it returns false'. Refute it at one input. -/
def receiverOrderWrong : ChangeSpec := { name := "receiverOrder", fn := fun _ => fun
  | [d1, d2, d3] => { results := [.lit (.bool false)], args := [d1, d2, d3] }
  | _ => none }
def ReceiverOrderWrongFalsely : Prop := receiverOrderRow.holds Try.pinned (OpenSpec.ofChange receiverOrderWrong)

/-- 'halftonelaw24.ReceiverNil': WHATEVER THE INPUT: true; the input reads as it did. -/
def receiverNilSpec : ChangeSpec := { name := "receiverNil", fn := fun _ => fun
  | [d1, d2] => { results := [.lit (.bool true)], args := [d1, d2] }
  | _ => none }
def receiverNilRow : OpenClaim := { program := "ythkiedkifhloeaa", sum := "965e1c4e742ca79f52e8abb1bc169a9307d9bd3df8665cdb77e03179e61ebac3", func := "halftone/halftonelaw24.ReceiverNil", spec := "receiverNil", unfollowed := true, recurses := true, apart := false }
def ReceiverNilSaid : Prop := receiverNilRow.holds Try.pinned (OpenSpec.ofChange receiverNilSpec)

/-- ITS FALSE NEIGHBOUR: 'it returns false'. Refute it at one input. -/
def receiverNilWrong : ChangeSpec := { name := "receiverNil", fn := fun _ => fun
  | [d1, d2] => { results := [.lit (.bool false)], args := [d1, d2] }
  | _ => none }
def ReceiverNilWrongFalsely : Prop := receiverNilRow.holds Try.pinned (OpenSpec.ofChange receiverNilWrong)

/- THE SECOND FORM. 'bulk': how many values and letters a reading holds, each counted each time it is reached (what is shared counts as often as it is met; a slice's spare places count too). A statement '..UptoSaid' is the law's where the arguments, and the package variables that the reading takes, are together of bulk at most 1048576: NARROWER than '..Said'. Prove '..Said' where nothing that the law and all that it calls make is longer than what came in: it says more and counts as full. Else prove '..UptoSaid'. A law counts once. -/
mutual
def uptoBulk {H : Type} : DataW H → Nat
  | .lit (.string bytes) => bytes.length + 1
  | .lit _ => 1
  | .nil => 1
  | .ptr d => uptoBulk d + 1
  | .slice elems spare => uptoBulkAll elems + uptoBulkAll spare + 1
  | .agg parts => uptoBulkAll parts + 1
  | .iface _ d => uptoBulk d + 1
  | .map entries => uptoBulkEntries entries + 1
  | .held _ => 1
def uptoBulkAll {H : Type} : List (DataW H) → Nat
  | [] => 0
  | d :: r => uptoBulk d + uptoBulkAll r
def uptoBulkEntries {H : Type} : List (Lit × DataW H) → Nat
  | [] => 0
  | x :: r => uptoBulkEntry x + uptoBulkEntries r
def uptoBulkEntry {H : Type} : Lit × DataW H → Nat
  | (.string bytes, d) => bytes.length + uptoBulk d + 1
  | (_, d) => uptoBulk d + 1
 end
def uptoSmall : (H : Type) → List (DataW H) → Bool := fun _ ds => decide (uptoBulkAll ds ≤ 1048576)
def OpenSpec.upto (s : _root_.Go.ChangeSpec) : _root_.Go.OpenSpec := { _root_.Go.OpenSpec.ofChange s with cond := some uptoSmall }

/-- 'halftonelaw24.ReceiverWhole', WHERE WHAT IT READS IS OF BULK AT MOST 1048576: true; the input reads as it did. -/
def receiverWholeUptoRow : OpenClaim := { program := "ythkiedkifhloeaa", sum := "965e1c4e742ca79f52e8abb1bc169a9307d9bd3df8665cdb77e03179e61ebac3", func := "halftone/halftonelaw24.ReceiverWhole", spec := "receiverWhole", unfollowed := true, recurses := true, apart := false, narrowed := true }
def ReceiverWholeUptoSaid : Prop := receiverWholeUptoRow.holds Try.pinned (OpenSpec.upto receiverWholeSpec)

/-- 'halftonelaw24.ReceiverPlays', WHERE WHAT IT READS IS OF BULK AT MOST 1048576: true; the input reads as it did. -/
def receiverPlaysUptoRow : OpenClaim := { program := "ythkiedkifhloeaa", sum := "965e1c4e742ca79f52e8abb1bc169a9307d9bd3df8665cdb77e03179e61ebac3", func := "halftone/halftonelaw24.ReceiverPlays", spec := "receiverPlays", unfollowed := true, recurses := true, apart := false, narrowed := true }
def ReceiverPlaysUptoSaid : Prop := receiverPlaysUptoRow.holds Try.pinned (OpenSpec.upto receiverPlaysSpec)

/-- 'halftonelaw24.ReceiverOrder', WHERE WHAT IT READS IS OF BULK AT MOST 1048576: true; the input reads as it did. -/
def receiverOrderUptoRow : OpenClaim := { program := "ythkiedkifhloeaa", sum := "965e1c4e742ca79f52e8abb1bc169a9307d9bd3df8665cdb77e03179e61ebac3", func := "halftone/halftonelaw24.ReceiverOrder", spec := "receiverOrder", unfollowed := true, recurses := true, apart := false, narrowed := true }
def ReceiverOrderUptoSaid : Prop := receiverOrderUptoRow.holds Try.pinned (OpenSpec.upto receiverOrderSpec)

/-- 'halftonelaw24.ReceiverNil', WHERE WHAT IT READS IS OF BULK AT MOST 1048576: true; the input reads as it did. -/
def receiverNilUptoRow : OpenClaim := { program := "ythkiedkifhloeaa", sum := "965e1c4e742ca79f52e8abb1bc169a9307d9bd3df8665cdb77e03179e61ebac3", func := "halftone/halftonelaw24.ReceiverNil", spec := "receiverNil", unfollowed := true, recurses := true, apart := false, narrowed := true }
def ReceiverNilUptoSaid : Prop := receiverNilUptoRow.holds Try.pinned (OpenSpec.upto receiverNilSpec)

end Rows
end Go.Proofs.Ythkiedkifhloeaa
