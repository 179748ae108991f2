/- SenderPlays: what is known of what comes in. -/
import Derived.Test.YtfmggodmhklfoaaR10
namespace Go.Proofs.Ytfmggodmhklfoaa.Lib
open Go.RowKit Go.Shelf Go.Proofs.YtfmggodmhklfoaaW.PrintWords Go.Proofs.YtfmggodmhklfoaaW.PrintLast Go.Proofs.YtfmggodmhklfoaaW.PrintMore
set_option linter.unusedVariables false
theorem plays_said (n0 wd0 f0 m0 : Int) (A3 : Option Addr) (c3 : Nat) (xs : List Actd) (w : World) (hw0 : (Lit.int .i64 n0).wf = true) (hw1 : (Lit.int .i64 wd0).wf = true) (hw2 : (Lit.int .i64 f0).wf = true) (hw3 : (Lit.int .i64 m0).wf = true) (hr : Kd.C k34 w A3 xs.length xs) (hc3 : xs.length ≤ c3)
    (h : xs.length ≤ 9223372036854775807 ∧ xs.length * 40 ≤ 140737488351232 ∧ ∀ x ∈ xs, True ∧ (Lit.int .i64 x.2.1).wf = true ∧ (x.2.2.length ≤ 9223372036854775807 ∧ x.2.2.length * 16 ≤ 140737488351232 ∧ ∀ r ∈ x.2.2, (Lit.int .i64 r.1).wf = true ∧ (Lit.int .i64 r.2).wf = true)) :
    Calls Try.prog 3 #[.int .i64 n0, .int .i64 wd0, .int .i64 f0, .int .i64 m0, .slice A3 xs.length c3] w fun e w' => e = .returned (.bool true) ∧ Below w.heap.size w w' :=
  plays_row n0 wd0 f0 m0 A3 c3 xs w hr hc3 (acts_ok h)
end Go.Proofs.Ytfmggodmhklfoaa.Lib
