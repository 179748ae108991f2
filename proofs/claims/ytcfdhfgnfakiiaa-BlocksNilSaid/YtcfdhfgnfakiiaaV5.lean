/- BlocksNil: walked by hand: a nil reader tells nothing. -/
import Derived.Test.YtcfdhfgnfakiiaaV4
namespace Go.Proofs.Ytcfdhfgnfakiiaa.Lib
open Go.RowKit Go.Proofs.YtcfdhfgnfakiiaaW.PrintWords Go.Proofs.YtcfdhfgnfakiiaaW.PrintLast Go.Proofs.YtcfdhfgnfakiiaaW.PrintMore
set_option maxRecDepth 100000 in
theorem push_nil (A : Option Addr) (n c : Nat) (w : World) : Calls Try.prog 12 #[.pointer none, .slice A n c] w fun e w' => e = .returned (.slice none 0 0) ∧ w' = w := by
  go_enter Try.func12, Try.ntmps12
  go_wp2
  go_ret
  exact ⟨rfl, rfl⟩
set_option maxRecDepth 100000 in
theorem done_nil (w : World) : Calls Try.prog 14 #[.pointer none] w fun e w' => e = .returned (.bool false) ∧ w' = w := by
  go_enter Try.func14, Try.ntmps14
  go_wp2
  go_ret
  exact ⟨rfl, rfl⟩
set_option maxRecDepth 100000 in
theorem rest_nil (w : World) : Calls Try.prog 15 #[.pointer none] w fun e w' => e = .returned (.slice none 0 0) ∧ w' = w := by
  go_enter Try.func15, Try.ntmps15
  go_wp2
  go_ret
  exact ⟨rfl, rfl⟩
set_option maxRecDepth 100000 in
theorem seen_nil (w : World) : Calls Try.prog 16 #[.pointer none] w fun e w' => e = .returned (.int .i64 0) ∧ w' = w := by
  go_enter Try.func16, Try.ntmps16
  go_wp2
  go_ret
  exact ⟨rfl, rfl⟩
def halftonelaw10_BlocksNil.f (_ : List Int) : Option Bool := some true
set_option maxRecDepth 100000 in
set_option maxHeartbeats 1000000 in
theorem halftonelaw10_BlocksNil.calls (A0 : Option Addr) (c0 : Nat) (l0 : List Int) (r : Bool) (w : World) (_hr0 : Kd.C (Kd.int .u8) w A0 l0.length l0) (_hc0 : l0.length ≤ c0) (h : halftonelaw10_BlocksNil.f l0 = some r) :
    Calls Try.prog 6 #[.slice A0 l0.length c0] w fun e w' => e = .returned (.bool r) ∧ Below w.heap.size w w' := by
  obtain rfl := Option.some.inj h
  go_enter Try.func6, Try.ntmps6
  go_wp2_with (first
    | (go_at_call 7; refine (halftonelaw10_fixed.calls true _ rfl).mono ?_; rintro e w1 ⟨rfl, hb1⟩)
    | (go_at_call 12; refine (push_nil _ _ _ _).mono ?_; rintro e w' ⟨rfl, rfl⟩)
    | (go_at_call 14; refine (done_nil _).mono ?_; rintro e w' ⟨rfl, rfl⟩)
    | (go_at_call 15; refine (rest_nil _).mono ?_; rintro e w' ⟨rfl, rfl⟩)
    | (go_at_call 16; refine (seen_nil _).mono ?_; rintro e w' ⟨rfl, rfl⟩))
  go_ret
  exact ⟨rfl, hb1⟩
theorem BlocksNil : ∀ (l0 : List Int), l0.length ≤ maxLen → l0.length * 1 ≤ 140737488351232 → (∀ x ∈ l0, (Lit.int .u8 x).wf = true) → halftonelaw10_BlocksNil.f l0 = some true := fun _ _ _ _ => rfl
end Go.Proofs.Ytcfdhfgnfakiiaa.Lib
