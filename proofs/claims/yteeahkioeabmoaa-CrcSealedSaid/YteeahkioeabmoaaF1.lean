/- The fixed calls of the statements of layer 3 answer true: their walk. -/
import Derived.Test.YteeahkioeabmoaaK
namespace Go.Proofs.Yteeahkioeabmoaa.Lib
open Go.RowKit Go.Proofs.YteeahkioeabmoaaW.PrintWords Go.Proofs.YteeahkioeabmoaaW.PrintLast Go.Proofs.YteeahkioeabmoaaW.PrintMore
theorem of1 : crc_Of.f 200 [[49, 50, 51, 52], [53, 54, 55, 56, 57]] = some 3421780262 := by decide +kernel
theorem of2 : crc_Of.f 200 [] = some 0 := by decide +kernel
theorem of3 : crc_Of.f 200 [[49, 50, 51, 52]] = some 2615402659 := by decide +kernel
theorem of4 : crc_Of.f 200 [[53, 54, 55, 56, 57]] = some 320708720 := by decide +kernel
theorem jo : crc_Join.f 200 2615402659 320708720 5 = some 3421780262 := by decide +kernel
set_option maxRecDepth 100000 in
theorem fixed_walk (w : World) : Calls Try.prog 8 #[] w fun e w' => e = .returned (.bool true) ∧ Below w.heap.size w w' := by
  have kc := conv_any
  go_enter Try.func8, Try.ntmps8
  go_wp2_with fail
  have HA := Aside0.mk (Kd.C_alloc (C_new_at (w := w) (b := w.heap.size) (xs := [49, 50, 51, 52]) (e := 5) (m := (4, 5)) rfl (by simp)) (.cells #[.int .u8 53, .int .u8 54, .int .u8 55, .int .u8 56, .int .u8 57] 5 (5, 6)))
  have HC := Aside0.mk (C_new_at (w := w.alloc (.cells #[.int .u8 49, .int .u8 50, .int .u8 51, .int .u8 52] 5 (4, 5))) (b := w.heap.size + 1) (xs := [53, 54, 55, 56, 57]) (e := 5) (m := (5, 6)) (by simp) (by simp))
  refine (crc_Of.calls 200 _ _ [[49, 50, 51, 52], [53, 54, 55, 56, 57]] _ _ (C_two_at (x := [49, 50, 51, 52]) (y := [53, 54, 55, 56, 57]) (by simp) (by simp) (by simp) HA.out HC.out) (by simp) of1).mono ?_
  rintro e w1 ⟨rfl, hd⟩
  replace HA := Aside0.mk (Kd.C_below (Kd.C_alloc HA.out _) hd.below)
  replace HC := Aside0.mk (Kd.C_below (Kd.C_alloc HC.out _) hd.below)
  have hb1 := Aside0.mk (below_step (((Below.refl w.heap.size w).alloc (Nat.le_refl _) _).alloc (by simp) _ |>.alloc (by simp; omega) _) hd.below)
  clear hd
  go_wp2_with fail
  refine (crc_Of.calls 200 _ _ [] _ _ (Kd.C_nil _ _) (Nat.le_refl _) of2).mono ?_
  rintro e w2 ⟨rfl, hd⟩
  replace HA := Aside0.mk (Kd.C_below HA.out hd.below)
  replace HC := Aside0.mk (Kd.C_below HC.out hd.below)
  replace hb1 := Aside0.mk (below_step hb1.out hd.below)
  clear hd
  go_wp2_with fail
  refine (crc_Of.calls 200 _ _ [[49, 50, 51, 52]] _ _ (C_one_at (x := [49, 50, 51, 52]) rfl (by simp) HA.out) (by simp) of3).mono ?_
  rintro e w3 ⟨rfl, hd⟩
  replace HC := Aside0.mk (Kd.C_below (Kd.C_alloc HC.out _) hd.below)
  replace hb1 := Aside0.mk (below_step (below_alloc hb1.out _) hd.below)
  clear hd HA
  go_wp2_with fail
  refine (crc_Of.calls 200 _ _ [[53, 54, 55, 56, 57]] _ _ (C_one_at (x := [53, 54, 55, 56, 57]) rfl (by simp) HC.out) (by simp) of4).mono ?_
  rintro e w4 ⟨rfl, hd⟩
  replace hb1 := Aside0.mk (below_step (below_alloc hb1.out _) hd.below)
  clear hd HC
  go_wp2_with fail
  refine (crc_Join.calls 200 _ _ _ _ _ jo).mono ?_
  rintro e w5 ⟨rfl, hd⟩
  replace hb1 := Aside0.mk (below_step hb1.out hd.below)
  clear hd
  go_wp2
  go_ret
  exact ⟨rfl, by repeat (first | exact hb1.out | apply pw_below_drewN)⟩
/-- The fixed calls are as they should be: no round is wanted to know it. -/
def halftonelaw03_fixed.f (_ : Nat) : Option Bool := some true
theorem halftonelaw03_fixed.mono : ∀ k, LeO (halftonelaw03_fixed.f k) (halftonelaw03_fixed.f (k + 1)) := fun _ => LeO.refl _
theorem halftonelaw03_fixed.calls (k : Nat) (r : Bool) (w : World) (h : halftonelaw03_fixed.f k = some r) :
    Calls Try.prog 8 #[] w fun e w' => e = .returned (.bool r) ∧ Below w.heap.size w w' := by
  obtain rfl := Option.some.inj h
  exact fixed_walk w
end Go.Proofs.Yteeahkioeabmoaa.Lib
