/- ChunkNil: walked by hand. -/
import Derived.Test.YtapaodagnpaekaaVh
namespace Go.Proofs.Ytapaodagnpaekaa.Lib
open Go.RowKit Go.Proofs.YtapaodagnpaekaaW.PrintWords Go.Proofs.YtapaodagnpaekaaW.PrintLast Go.Proofs.YtapaodagnpaekaaW.PrintMore
set_option linter.unusedVariables false
set_option linter.unusedSimpArgs false
set_option maxRecDepth 100000 in
theorem nil_row (A1 : Option Addr) (c1 : Nat) (rs : List Int) (w : World) (hr1 : Kd.C (Kd.int .u8) w A1 rs.length rs) (hc1 : rs.length ≤ c1) {P : Prop} (hok : P) :
    Calls Try.prog 7 #[.slice A1 rs.length c1] w fun e w' => e = .returned (.bool true) ∧ Below w.heap.size w w' := by
  obtain ⟨m, hm⟩ : ∃ m, rs.length = m := ⟨_, rfl⟩
  rw [hm]
  go_enter Try.func7, Try.ntmps7
  go_wp2_with (first
    | (go_at_call 8; refine (halftonelaw11_fixed.calls true _ rfl).mono ?_; rintro e w1 ⟨rfl, hb1⟩)
    | (go_at_call 10; refine (push_nil _ _ _ _).mono ?_; rintro e w2 ⟨rfl, hb2⟩)
    | (go_at_call 12; refine (between_nil _).mono ?_; rintro e w3 ⟨rfl, rfl⟩))
  go_ret
  exact ⟨rfl, below_then hb1 hb1.size hb2⟩
end Go.Proofs.Ytapaodagnpaekaa.Lib
