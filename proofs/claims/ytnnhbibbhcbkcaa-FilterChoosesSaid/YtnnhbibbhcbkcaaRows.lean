/-
  No cell of these rows narrows 'for every input' (looked for: loops, veiled, ifaces, maps, wideKeys, modest, calm, conditions, laid).
  DERIVED. THE GIVEN ROWS OF THIS SEAT. 5 by the template 'for every input the law returns true; each argument reads behind the call as it read before'; 0 by the template 'total and deterministic' (their statements: YtnnhbibbhcbkcaaTotals.lean).
  GIVEN WITH THE SEED: the statements are not yours to turn. If you find one false, say at which input.
  Laid BY PROGRAM, IN A SANDBOX (cutbox-rows.mjs): the forced cells as the released guide's own fill.sh prints them over the translation aab40bd37b54eaac… (all of the seat's roots in one cut). By AI agents, Wed Nov 11 2026. No macro, syntax, notation, axiom, sorry.
-/
import Derived.Test.YtnnhbibbhcbkcaaChecked
import GoSem.Claim
import GoSem.ClaimJoined
import GoSem.ClaimMapViews
import Derived.JoinedTies
import Derived.KernelRfl
namespace Go.Proofs.Ytnnhbibbhcbkcaa
/- THE CELL 'sum', in the pinned program and in every row, IS THE sha256 OF THE DUMP (.gsa) THAT YtnnhbibbhcbkcaaProg.lean LOADS. Nothing in Lean hashes anything: it is a label: what it is worth is what the hold of that sum in a sandbox is worth. -/
noncomputable def Try.pinned : Pinned := { name := "ytnnhbibbhcbkcaa", sum := "aab40bd37b54eaacc27ad478b8dfe201c38e76c015953bf1d507081088623700", checked := Try.checked }
namespace Rows
def none {H : Type} : Left H := { results := [], args := [] }

/-- 'halftonelaw13.FilterDoes': WHATEVER THE INPUT: true; the input reads as it did. -/
def filterDoesSpec : ChangeSpec := { name := "filterDoes", fn := fun _ => fun
  | [d1, d2, d3, d4] => { results := [.lit (.bool true)], args := [d1, d2, d3, d4] }
  | _ => none }
def filterDoesRow : OpenClaim := { program := "ytnnhbibbhcbkcaa", sum := "aab40bd37b54eaacc27ad478b8dfe201c38e76c015953bf1d507081088623700", func := "halftone/halftonelaw13.FilterDoes", spec := "filterDoes", apart := false }
def FilterDoesSaid : Prop := filterDoesRow.holds Try.pinned (OpenSpec.ofChange filterDoesSpec)

/-- ITS FALSE NEIGHBOUR: 'it returns false'. Refute it at one input. -/
def filterDoesWrong : ChangeSpec := { name := "filterDoes", fn := fun _ => fun
  | [d1, d2, d3, d4] => { results := [.lit (.bool false)], args := [d1, d2, d3, d4] }
  | _ => none }
def FilterDoesWrongFalsely : Prop := filterDoesRow.holds Try.pinned (OpenSpec.ofChange filterDoesWrong)

/-- 'halftonelaw13.FilterUndoes': WHATEVER THE INPUT: true; the input reads as it did. -/
def filterUndoesSpec : ChangeSpec := { name := "filterUndoes", fn := fun _ => fun
  | [d1, d2, d3, d4] => { results := [.lit (.bool true)], args := [d1, d2, d3, d4] }
  | _ => none }
def filterUndoesRow : OpenClaim := { program := "ytnnhbibbhcbkcaa", sum := "aab40bd37b54eaacc27ad478b8dfe201c38e76c015953bf1d507081088623700", func := "halftone/halftonelaw13.FilterUndoes", spec := "filterUndoes", apart := false }
def FilterUndoesSaid : Prop := filterUndoesRow.holds Try.pinned (OpenSpec.ofChange filterUndoesSpec)

/-- ITS FALSE NEIGHBOUR: 'it returns false'. Refute it at one input. -/
def filterUndoesWrong : ChangeSpec := { name := "filterUndoes", fn := fun _ => fun
  | [d1, d2, d3, d4] => { results := [.lit (.bool false)], args := [d1, d2, d3, d4] }
  | _ => none }
def FilterUndoesWrongFalsely : Prop := filterUndoesRow.holds Try.pinned (OpenSpec.ofChange filterUndoesWrong)

/-- 'halftonelaw13.FilterBack': WHATEVER THE INPUT: true; the input reads as it did. -/
def filterBackSpec : ChangeSpec := { name := "filterBack", fn := fun _ => fun
  | [d1, d2, d3, d4] => { results := [.lit (.bool true)], args := [d1, d2, d3, d4] }
  | _ => none }
def filterBackRow : OpenClaim := { program := "ytnnhbibbhcbkcaa", sum := "aab40bd37b54eaacc27ad478b8dfe201c38e76c015953bf1d507081088623700", func := "halftone/halftonelaw13.FilterBack", spec := "filterBack", apart := false }
def FilterBackSaid : Prop := filterBackRow.holds Try.pinned (OpenSpec.ofChange filterBackSpec)

/-- ITS FALSE NEIGHBOUR: 'it returns false'. Refute it at one input. -/
def filterBackWrong : ChangeSpec := { name := "filterBack", fn := fun _ => fun
  | [d1, d2, d3, d4] => { results := [.lit (.bool false)], args := [d1, d2, d3, d4] }
  | _ => none }
def FilterBackWrongFalsely : Prop := filterBackRow.holds Try.pinned (OpenSpec.ofChange filterBackWrong)

/-- 'halftonelaw13.FilterChooses': WHATEVER THE INPUT: true; the input reads as it did. -/
def filterChoosesSpec : ChangeSpec := { name := "filterChooses", fn := fun _ => fun
  | [d1, d2, d3] => { results := [.lit (.bool true)], args := [d1, d2, d3] }
  | _ => none }
def filterChoosesRow : OpenClaim := { program := "ytnnhbibbhcbkcaa", sum := "aab40bd37b54eaacc27ad478b8dfe201c38e76c015953bf1d507081088623700", func := "halftone/halftonelaw13.FilterChooses", spec := "filterChooses", apart := false }
def FilterChoosesSaid : Prop := filterChoosesRow.holds Try.pinned (OpenSpec.ofChange filterChoosesSpec)

/-- ITS FALSE NEIGHBOUR: 'it returns false'. Refute it at one input. -/
def filterChoosesWrong : ChangeSpec := { name := "filterChooses", fn := fun _ => fun
  | [d1, d2, d3] => { results := [.lit (.bool false)], args := [d1, d2, d3] }
  | _ => none }
def FilterChoosesWrongFalsely : Prop := filterChoosesRow.holds Try.pinned (OpenSpec.ofChange filterChoosesWrong)

/-- 'halftonelaw13.FilterBest': WHATEVER THE INPUT: true; the input reads as it did. -/
def filterBestSpec : ChangeSpec := { name := "filterBest", fn := fun _ => fun
  | [d1, d2, d3, d4] => { results := [.lit (.bool true)], args := [d1, d2, d3, d4] }
  | _ => none }
def filterBestRow : OpenClaim := { program := "ytnnhbibbhcbkcaa", sum := "aab40bd37b54eaacc27ad478b8dfe201c38e76c015953bf1d507081088623700", func := "halftone/halftonelaw13.FilterBest", spec := "filterBest", apart := false }
def FilterBestSaid : Prop := filterBestRow.holds Try.pinned (OpenSpec.ofChange filterBestSpec)

/-- ITS FALSE NEIGHBOUR: 'it returns false'. Refute it at one input. -/
def filterBestWrong : ChangeSpec := { name := "filterBest", fn := fun _ => fun
  | [d1, d2, d3, d4] => { results := [.lit (.bool false)], args := [d1, d2, d3, d4] }
  | _ => none }
def FilterBestWrongFalsely : Prop := filterBestRow.holds Try.pinned (OpenSpec.ofChange filterBestWrong)

/- THE SECOND FORM. 'bulk': how many values and letters a reading holds, each counted each time it is reached (what is shared counts as often as it is met; a slice's spare places count too). A statement '..UptoSaid' is the law's where the arguments, and the package variables that the reading takes, are together of bulk at most 1048576: NARROWER than '..Said'. Prove '..Said' where nothing that the law and all that it calls make is longer than what came in: it says more and counts as full. Else prove '..UptoSaid'. A law counts once. -/
mutual
def uptoBulk {H : Type} : DataW H → Nat
  | .lit (.string bytes) => bytes.length + 1
  | .lit _ => 1
  | .nil => 1
  | .ptr d => uptoBulk d + 1
  | .slice elems spare => uptoBulkAll elems + uptoBulkAll spare + 1
  | .agg parts => uptoBulkAll parts + 1
  | .iface _ d => uptoBulk d + 1
  | .map entries => uptoBulkEntries entries + 1
  | .held _ => 1
def uptoBulkAll {H : Type} : List (DataW H) → Nat
  | [] => 0
  | d :: r => uptoBulk d + uptoBulkAll r
def uptoBulkEntries {H : Type} : List (Lit × DataW H) → Nat
  | [] => 0
  | x :: r => uptoBulkEntry x + uptoBulkEntries r
def uptoBulkEntry {H : Type} : Lit × DataW H → Nat
  | (.string bytes, d) => bytes.length + uptoBulk d + 1
  | (_, d) => uptoBulk d + 1
 end
def uptoSmall : (H : Type) → List (DataW H) → Bool := fun _ ds => decide (uptoBulkAll ds ≤ 1048576)
def OpenSpec.upto (s : _root_.Go.ChangeSpec) : _root_.Go.OpenSpec := { _root_.Go.OpenSpec.ofChange s with cond := some uptoSmall }

/-- 'halftonelaw13.FilterDoes', WHERE WHAT IT READS IS OF BULK AT MOST 1048576: true; the input reads as it did. -/
def filterDoesUptoRow : OpenClaim := { program := "ytnnhbibbhcbkcaa", sum := "aab40bd37b54eaacc27ad478b8dfe201c38e76c015953bf1d507081088623700", func := "halftone/halftonelaw13.FilterDoes", spec := "filterDoes", apart := false, narrowed := true }
def FilterDoesUptoSaid : Prop := filterDoesUptoRow.holds Try.pinned (OpenSpec.upto filterDoesSpec)

/-- 'halftonelaw13.FilterUndoes', WHERE WHAT IT READS IS OF BULK AT MOST 1048576: true; the input reads as it did. -/
def filterUndoesUptoRow : OpenClaim := { program := "ytnnhbibbhcbkcaa", sum := "aab40bd37b54eaacc27ad478b8dfe201c38e76c015953bf1d507081088623700", func := "halftone/halftonelaw13.FilterUndoes", spec := "filterUndoes", apart := false, narrowed := true }
def FilterUndoesUptoSaid : Prop := filterUndoesUptoRow.holds Try.pinned (OpenSpec.upto filterUndoesSpec)

/-- 'halftonelaw13.FilterBack', WHERE WHAT IT READS IS OF BULK AT MOST 1048576: true; the input reads as it did. -/
def filterBackUptoRow : OpenClaim := { program := "ytnnhbibbhcbkcaa", sum := "aab40bd37b54eaacc27ad478b8dfe201c38e76c015953bf1d507081088623700", func := "halftone/halftonelaw13.FilterBack", spec := "filterBack", apart := false, narrowed := true }
def FilterBackUptoSaid : Prop := filterBackUptoRow.holds Try.pinned (OpenSpec.upto filterBackSpec)

/-- 'halftonelaw13.FilterChooses', WHERE WHAT IT READS IS OF BULK AT MOST 1048576: true; the input reads as it did. -/
def filterChoosesUptoRow : OpenClaim := { program := "ytnnhbibbhcbkcaa", sum := "aab40bd37b54eaacc27ad478b8dfe201c38e76c015953bf1d507081088623700", func := "halftone/halftonelaw13.FilterChooses", spec := "filterChooses", apart := false, narrowed := true }
def FilterChoosesUptoSaid : Prop := filterChoosesUptoRow.holds Try.pinned (OpenSpec.upto filterChoosesSpec)

/-- 'halftonelaw13.FilterBest', WHERE WHAT IT READS IS OF BULK AT MOST 1048576: true; the input reads as it did. -/
def filterBestUptoRow : OpenClaim := { program := "ytnnhbibbhcbkcaa", sum := "aab40bd37b54eaacc27ad478b8dfe201c38e76c015953bf1d507081088623700", func := "halftone/halftonelaw13.FilterBest", spec := "filterBest", apart := false, narrowed := true }
def FilterBestUptoSaid : Prop := filterBestUptoRow.holds Try.pinned (OpenSpec.upto filterBestSpec)

end Rows
end Go.Proofs.Ytnnhbibbhcbkcaa
