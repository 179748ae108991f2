/- BlocksReads, for the row. -/
import Derived.Test.YtcfdhfgnfakiiaaV7
import Derived.Test.YtcfdhfgnfakiiaaOp
namespace Go.Proofs.Ytcfdhfgnfakiiaa.Lib
open Go.RowKit Go.Proofs.YtcfdhfgnfakiiaaW.PrintWords Go.Proofs.YtcfdhfgnfakiiaaW.PrintLast Go.Proofs.YtcfdhfgnfakiiaaW.PrintMore
theorem byte_of_wf {x : Int} (h : (Lit.int .u8 x).wf = true) : 0 ≤ x ∧ x ≤ 255 := by
  have hm : IntKind.u8.min = 0 := by decide
  have hx : IntKind.u8.max = 255 := by decide
  simp [Lit.wf, hm, hx] at h
  omega
theorem reads_row (A0 : Option Addr) (c0 : Nat) (L : List (List Int)) (w : World) (hr0 : Kd.C (Kd.slice 5 (Kd.int .u8)) w A0 L.length L) (_hc0 : L.length ≤ c0)
    (w0 : L.length ≤ 9223372036854775807 ∧ L.length * 24 ≤ 140737488351232 ∧ ∀ x ∈ L, x.length ≤ 9223372036854775807 ∧ x.length * 1 ≤ 140737488351232 ∧ ∀ y ∈ x, (Lit.int .u8 y).wf = true) :
    Calls Try.prog 4 #[.slice A0 L.length c0] w fun e w' => e = .returned (.bool true) ∧ Below w.heap.size w w' :=
  reads_walk A0 c0 L w hr0 (fun l hl x hx => byte_of_wf ((w0.2.2 l hl).2.2 x hx))
end Go.Proofs.Ytcfdhfgnfakiiaa.Lib
