/- ReceiverNil: the row. -/
import Derived.Test.YthkiedkifhloeaaV7
namespace Go.Proofs.Ythkiedkifhloeaa.Lib
open Go.RowKit Go.Proofs.YthkiedkifhloeaaW.PrintWords Go.Proofs.YthkiedkifhloeaaW.PrintLast Go.Proofs.YthkiedkifhloeaaW.PrintMore
set_option linter.unusedVariables false
set_option linter.unusedSimpArgs false
set_option maxRecDepth 100000 in
theorem nil_row (i : Int) (A : Option Addr) (c : Nat) (l : List Int) (w : World) {P0 P1 P2 P3 : Prop} (_ : P0) (_ : P1) (_ : P2) (_ : P3) : Calls Try.prog 6 #[.int .i64 i, .slice A l.length c] w fun e w' => e = .returned (.bool true) ∧ Below w.heap.size w w' := by
  go_enter Try.func6, Try.ntmps6
  go_wp2_with fail
  refine (fixed_walk w).mono ?_
  rintro e w1 ⟨rfl, hb1⟩
  have HB1 := Aside0.mk hb1
  clear hb1
  go_wp2_with fail
  refine (take_nil i _ w1).mono ?_
  rintro e w2 ⟨rfl, q2, rfl⟩
  go_wp2_with fail
  refine (next_nil _).mono ?_
  rintro e w3 ⟨rfl, rfl⟩
  go_wp2_with fail
  refine (held_nil _).mono ?_
  rintro e w4 ⟨rfl, rfl⟩
  go_wp2_with fail
  refine (ranges_nil _).mono ?_
  rintro e w5 ⟨rfl, rfl⟩
  go_wp2_with fail
  refine (done_nil _).mono ?_
  rintro e w6 ⟨rfl, q6, rfl⟩
  go_wp2
  go_ret
  exact ⟨rfl, pw_below_drewN HB1.out (q2 + q6)⟩
end Go.Proofs.Ythkiedkifhloeaa.Lib
