/- SenderNil: walked by hand. -/
import Derived.Test.YtfmggodmhklfoaaV8
namespace Go.Proofs.Ytfmggodmhklfoaa.Lib
open Go.RowKit Go.Shelf Go.Proofs.YtfmggodmhklfoaaW.PrintWords Go.Proofs.YtfmggodmhklfoaaW.PrintLast Go.Proofs.YtfmggodmhklfoaaW.PrintMore
set_option linter.unusedVariables false
set_option linter.unusedSimpArgs false
set_option maxRecDepth 100000 in
theorem nil_row (next : Int) (A1 : Option Addr) (c1 : Nat) (rs : List (Int × Int)) (w : World) (hw0 : (Lit.int .i64 next).wf = true) (hr1 : Kd.C k52 w A1 rs.length rs) (hc1 : rs.length ≤ c1) {P : Prop} (hok : P) :
    Calls Try.prog 7 #[.int .i64 next, .slice A1 rs.length c1] w fun e w' => e = .returned (.bool true) ∧ Below w.heap.size w w' := by
  obtain ⟨m, hm⟩ : ∃ m, rs.length = m := ⟨_, rfl⟩
  rw [hm]
  go_enter Try.func7, Try.ntmps7
  go_wp2_with (first
    | (go_at_call 8; refine (halftonelaw23_fixed.calls true _ rfl).mono ?_; rintro e w1 ⟨rfl, hb1⟩)
    | (go_at_call 12; refine (ack_nil _ _ _).mono ?_; rintro e w2 ⟨rfl, ⟨nd2, rfl⟩⟩)
    | (go_at_call 15; refine (tick_nil _).mono ?_; rintro e w3 ⟨rfl, hb3⟩)
    | (go_at_call 17; refine (base_nil _).mono ?_; rintro e w4 ⟨rfl, ⟨nd4, rfl⟩⟩)
    | (go_at_call 19; refine (flight_nil _).mono ?_; rintro e w5 ⟨rfl, hb5⟩)
    | (go_at_call 21; refine (done_nil _).mono ?_; rintro e w6 ⟨rfl, ⟨nd6, rfl⟩⟩))
  go_ret
  refine ⟨rfl, ?_⟩
  have h3 := below_then (pw_below_drewN hb1 nd2) (by simpa using hb1.size) hb3
  have h5 := below_then (pw_below_drewN h3 nd4) (by simpa using h3.size) hb5
  exact pw_below_drewN h5 nd6
end Go.Proofs.Ytfmggodmhklfoaa.Lib
