/-
  No cell of these rows narrows 'for every input' (looked for: loops, veiled, ifaces, maps, wideKeys, modest, calm, conditions, laid).
  DERIVED. THE GIVEN ROWS OF THIS SEAT. 5 by the template 'for every input the law returns true; each argument reads behind the call as it read before'; 0 by the template 'total and deterministic' (their statements: YtgfhggbnlnpebaaTotals.lean).
  GIVEN WITH THE SEED: the statements are not yours to turn. If you find one false, say at which input.
  Laid BY PROGRAM, IN A SANDBOX (cutbox-rows.mjs): the forced cells as the released guide's own fill.sh prints them over the translation 54c6f2eff4a8f334… (all of the seat's roots in one cut). By AI agents, Wed Nov 11 2026. No macro, syntax, notation, axiom, sorry.
-/
import Derived.Test.YtgfhggbnlnpebaaChecked
import GoSem.Claim
import GoSem.ClaimJoined
import GoSem.ClaimMapViews
import Derived.JoinedTies
import Derived.KernelRfl
namespace Go.Proofs.Ytgfhggbnlnpebaa
/- THE CELL 'sum', in the pinned program and in every row, IS THE sha256 OF THE DUMP (.gsa) THAT YtgfhggbnlnpebaaProg.lean LOADS. Nothing in Lean hashes anything: it is a label: what it is worth is what the hold of that sum in a sandbox is worth. -/
noncomputable def Try.pinned : Pinned := { name := "ytgfhggbnlnpebaa", sum := "54c6f2eff4a8f334feca04a157b3f64590e407b0558c849781be9af4ddea65df", checked := Try.checked }
namespace Rows
def none {H : Type} : Left H := { results := [], args := [] }

/-- 'halftonelaw04.AdlerSums': WHATEVER THE INPUT: true; the input reads as it did. -/
def adlerSumsSpec : ChangeSpec := { name := "adlerSums", fn := fun _ => fun
  | [d1, d2] => { results := [.lit (.bool true)], args := [d1, d2] }
  | _ => none }
def adlerSumsRow : OpenClaim := { program := "ytgfhggbnlnpebaa", sum := "54c6f2eff4a8f334feca04a157b3f64590e407b0558c849781be9af4ddea65df", func := "halftone/halftonelaw04.AdlerSums", spec := "adlerSums", apart := false }
def AdlerSumsSaid : Prop := adlerSumsRow.holds Try.pinned (OpenSpec.ofChange adlerSumsSpec)

/-- ITS FALSE NEIGHBOUR: 'it returns false'. Refute it at one input. -/
def adlerSumsWrong : ChangeSpec := { name := "adlerSums", fn := fun _ => fun
  | [d1, d2] => { results := [.lit (.bool false)], args := [d1, d2] }
  | _ => none }
def AdlerSumsWrongFalsely : Prop := adlerSumsRow.holds Try.pinned (OpenSpec.ofChange adlerSumsWrong)

/-- 'halftonelaw04.AdlerParts': WHATEVER THE INPUT: true; the input reads as it did. -/
def adlerPartsSpec : ChangeSpec := { name := "adlerParts", fn := fun _ => fun
  | [d] => { results := [.lit (.bool true)], args := [d] }
  | _ => none }
def adlerPartsRow : OpenClaim := { program := "ytgfhggbnlnpebaa", sum := "54c6f2eff4a8f334feca04a157b3f64590e407b0558c849781be9af4ddea65df", func := "halftone/halftonelaw04.AdlerParts", spec := "adlerParts", apart := false }
def AdlerPartsSaid : Prop := adlerPartsRow.holds Try.pinned (OpenSpec.ofChange adlerPartsSpec)

/-- ITS FALSE NEIGHBOUR: 'it returns false'. Refute it at one input. -/
def adlerPartsWrong : ChangeSpec := { name := "adlerParts", fn := fun _ => fun
  | [d] => { results := [.lit (.bool false)], args := [d] }
  | _ => none }
def AdlerPartsWrongFalsely : Prop := adlerPartsRow.holds Try.pinned (OpenSpec.ofChange adlerPartsWrong)

/-- 'halftonelaw04.AdlerTogether': WHATEVER THE INPUT: true; the input reads as it did. -/
def adlerTogetherSpec : ChangeSpec := { name := "adlerTogether", fn := fun _ => fun
  | [d1, d2] => { results := [.lit (.bool true)], args := [d1, d2] }
  | _ => none }
def adlerTogetherRow : OpenClaim := { program := "ytgfhggbnlnpebaa", sum := "54c6f2eff4a8f334feca04a157b3f64590e407b0558c849781be9af4ddea65df", func := "halftone/halftonelaw04.AdlerTogether", spec := "adlerTogether", apart := false }
def AdlerTogetherSaid : Prop := adlerTogetherRow.holds Try.pinned (OpenSpec.ofChange adlerTogetherSpec)

/-- ITS FALSE NEIGHBOUR: 'it returns false'. Refute it at one input. -/
def adlerTogetherWrong : ChangeSpec := { name := "adlerTogether", fn := fun _ => fun
  | [d1, d2] => { results := [.lit (.bool false)], args := [d1, d2] }
  | _ => none }
def AdlerTogetherWrongFalsely : Prop := adlerTogetherRow.holds Try.pinned (OpenSpec.ofChange adlerTogetherWrong)

/-- 'halftonelaw04.AdlerTurned': WHATEVER THE INPUT: true; the input reads as it did. -/
def adlerTurnedSpec : ChangeSpec := { name := "adlerTurned", fn := fun _ => fun
  | [d1, d2, d3] => { results := [.lit (.bool true)], args := [d1, d2, d3] }
  | _ => none }
def adlerTurnedRow : OpenClaim := { program := "ytgfhggbnlnpebaa", sum := "54c6f2eff4a8f334feca04a157b3f64590e407b0558c849781be9af4ddea65df", func := "halftone/halftonelaw04.AdlerTurned", spec := "adlerTurned", apart := false }
def AdlerTurnedSaid : Prop := adlerTurnedRow.holds Try.pinned (OpenSpec.ofChange adlerTurnedSpec)

/-- ITS FALSE NEIGHBOUR: 'it returns false'. Refute it at one input. -/
def adlerTurnedWrong : ChangeSpec := { name := "adlerTurned", fn := fun _ => fun
  | [d1, d2, d3] => { results := [.lit (.bool false)], args := [d1, d2, d3] }
  | _ => none }
def AdlerTurnedWrongFalsely : Prop := adlerTurnedRow.holds Try.pinned (OpenSpec.ofChange adlerTurnedWrong)

/-- 'halftonelaw04.AdlerLong': WHATEVER THE INPUT: true; the input reads as it did. -/
def adlerLongSpec : ChangeSpec := { name := "adlerLong", fn := fun _ => fun
  | [d1, d2] => { results := [.lit (.bool true)], args := [d1, d2] }
  | _ => none }
def adlerLongRow : OpenClaim := { program := "ytgfhggbnlnpebaa", sum := "54c6f2eff4a8f334feca04a157b3f64590e407b0558c849781be9af4ddea65df", func := "halftone/halftonelaw04.AdlerLong", spec := "adlerLong", apart := false }
def AdlerLongSaid : Prop := adlerLongRow.holds Try.pinned (OpenSpec.ofChange adlerLongSpec)

/-- ITS FALSE NEIGHBOUR: 'it returns false'. Refute it at one input. -/
def adlerLongWrong : ChangeSpec := { name := "adlerLong", fn := fun _ => fun
  | [d1, d2] => { results := [.lit (.bool false)], args := [d1, d2] }
  | _ => none }
def AdlerLongWrongFalsely : Prop := adlerLongRow.holds Try.pinned (OpenSpec.ofChange adlerLongWrong)

/- THE SECOND FORM. 'bulk': how many values and letters a reading holds, each counted each time it is reached (what is shared counts as often as it is met; a slice's spare places count too). A statement '..UptoSaid' is the law's where the arguments, and the package variables that the reading takes, are together of bulk at most 1048576: NARROWER than '..Said'. Prove '..Said' where nothing that the law and all that it calls make is longer than what came in: it says more and counts as full. Else prove '..UptoSaid'. A law counts once. -/
mutual
def uptoBulk {H : Type} : DataW H → Nat
  | .lit (.string bytes) => bytes.length + 1
  | .lit _ => 1
  | .nil => 1
  | .ptr d => uptoBulk d + 1
  | .slice elems spare => uptoBulkAll elems + uptoBulkAll spare + 1
  | .agg parts => uptoBulkAll parts + 1
  | .iface _ d => uptoBulk d + 1
  | .map entries => uptoBulkEntries entries + 1
  | .held _ => 1
def uptoBulkAll {H : Type} : List (DataW H) → Nat
  | [] => 0
  | d :: r => uptoBulk d + uptoBulkAll r
def uptoBulkEntries {H : Type} : List (Lit × DataW H) → Nat
  | [] => 0
  | x :: r => uptoBulkEntry x + uptoBulkEntries r
def uptoBulkEntry {H : Type} : Lit × DataW H → Nat
  | (.string bytes, d) => bytes.length + uptoBulk d + 1
  | (_, d) => uptoBulk d + 1
 end
def uptoSmall : (H : Type) → List (DataW H) → Bool := fun _ ds => decide (uptoBulkAll ds ≤ 1048576)
def OpenSpec.upto (s : _root_.Go.ChangeSpec) : _root_.Go.OpenSpec := { _root_.Go.OpenSpec.ofChange s with cond := some uptoSmall }

/-- 'halftonelaw04.AdlerSums', WHERE WHAT IT READS IS OF BULK AT MOST 1048576: true; the input reads as it did. -/
def adlerSumsUptoRow : OpenClaim := { program := "ytgfhggbnlnpebaa", sum := "54c6f2eff4a8f334feca04a157b3f64590e407b0558c849781be9af4ddea65df", func := "halftone/halftonelaw04.AdlerSums", spec := "adlerSums", apart := false, narrowed := true }
def AdlerSumsUptoSaid : Prop := adlerSumsUptoRow.holds Try.pinned (OpenSpec.upto adlerSumsSpec)

/-- 'halftonelaw04.AdlerParts', WHERE WHAT IT READS IS OF BULK AT MOST 1048576: true; the input reads as it did. -/
def adlerPartsUptoRow : OpenClaim := { program := "ytgfhggbnlnpebaa", sum := "54c6f2eff4a8f334feca04a157b3f64590e407b0558c849781be9af4ddea65df", func := "halftone/halftonelaw04.AdlerParts", spec := "adlerParts", apart := false, narrowed := true }
def AdlerPartsUptoSaid : Prop := adlerPartsUptoRow.holds Try.pinned (OpenSpec.upto adlerPartsSpec)

/-- 'halftonelaw04.AdlerTogether', WHERE WHAT IT READS IS OF BULK AT MOST 1048576: true; the input reads as it did. -/
def adlerTogetherUptoRow : OpenClaim := { program := "ytgfhggbnlnpebaa", sum := "54c6f2eff4a8f334feca04a157b3f64590e407b0558c849781be9af4ddea65df", func := "halftone/halftonelaw04.AdlerTogether", spec := "adlerTogether", apart := false, narrowed := true }
def AdlerTogetherUptoSaid : Prop := adlerTogetherUptoRow.holds Try.pinned (OpenSpec.upto adlerTogetherSpec)

/-- 'halftonelaw04.AdlerTurned', WHERE WHAT IT READS IS OF BULK AT MOST 1048576: true; the input reads as it did. -/
def adlerTurnedUptoRow : OpenClaim := { program := "ytgfhggbnlnpebaa", sum := "54c6f2eff4a8f334feca04a157b3f64590e407b0558c849781be9af4ddea65df", func := "halftone/halftonelaw04.AdlerTurned", spec := "adlerTurned", apart := false, narrowed := true }
def AdlerTurnedUptoSaid : Prop := adlerTurnedUptoRow.holds Try.pinned (OpenSpec.upto adlerTurnedSpec)

/-- 'halftonelaw04.AdlerLong', WHERE WHAT IT READS IS OF BULK AT MOST 1048576: true; the input reads as it did. -/
def adlerLongUptoRow : OpenClaim := { program := "ytgfhggbnlnpebaa", sum := "54c6f2eff4a8f334feca04a157b3f64590e407b0558c849781be9af4ddea65df", func := "halftone/halftonelaw04.AdlerLong", spec := "adlerLong", apart := false, narrowed := true }
def AdlerLongUptoSaid : Prop := adlerLongUptoRow.holds Try.pinned (OpenSpec.upto adlerLongSpec)

end Rows
end Go.Proofs.Ytgfhggbnlnpebaa
