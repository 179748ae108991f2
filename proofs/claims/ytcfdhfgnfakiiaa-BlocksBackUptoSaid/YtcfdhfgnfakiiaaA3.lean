/- BlocksBack, for the row. -/
import Derived.Test.YtcfdhfgnfakiiaaV9
import Derived.Test.YtcfdhfgnfakiiaaA2
namespace Go.Proofs.Ytcfdhfgnfakiiaa.Lib
open Go.RowKit Go.Proofs.YtcfdhfgnfakiiaaW.PrintWords Go.Proofs.YtcfdhfgnfakiiaaW.PrintLast Go.Proofs.YtcfdhfgnfakiiaaW.PrintMore
abbrev RowOk (l : List Int) : Prop := l.length ≤ 9223372036854775807 ∧ l.length * 1 ≤ 140737488351232 ∧ ∀ y ∈ l, (Lit.int .u8 y).wf = true
theorem back_row (A0 : Option Addr) (c0 : Nat) (l0 : List Int) (a1 : Int) (A2 : Option Addr) (c2 : Nat) (l2 : List Int) (w : World) (hr0 : Kd.C (Kd.int .u8) w A0 l0.length l0) (hc0 : l0.length ≤ c0) (w0 : RowOk l0) (y0 : l0.length ≤ 1048576) (w1 : (Lit.int .u8 a1).wf = true)
    (hr2 : Kd.C (Kd.int .u8) w A2 l2.length l2) (hc2 : l2.length ≤ c2) (w2 : RowOk l2) (y2 : l2.length ≤ 1048576) :
    Calls Try.prog 5 #[.slice A0 l0.length c0, .int .u8 a1, .slice A2 l2.length c2] w fun e w' => e = .returned (.bool true) ∧ Below w.heap.size w w' :=
  back_walk A0 c0 l0 a1 A2 c2 l2 w hr0 hc0 (fun x hx => byte_of_wf (w0.2.2 x hx)) y0 (byte_of_wf w1) hr2 hc2 (fun x hx => byte_of_wf (w2.2.2 x hx)) y2
end Go.Proofs.Ytcfdhfgnfakiiaa.Lib
