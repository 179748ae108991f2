/- Lines that the kit's print wrote for this seat's functions, laid together (asm.py). -/
import Derived.Test.YteeahkioeabmoaaF1
namespace Go.Proofs.Yteeahkioeabmoaa.Lib
open Go.RowKit Go.Proofs.YteeahkioeabmoaaW.PrintWords Go.Proofs.YteeahkioeabmoaaW.PrintLast Go.Proofs.YteeahkioeabmoaaW.PrintMore
attribute [local go_sem] max2_int min2_int max_two min_two max_three min_three max_four min_four
set_option linter.unusedVariables false
set_option linter.unusedSimpArgs false
/-! ### halftonelaw03_CrcSealed -/
def halftonelaw03_CrcSealed.f (k : Nat) (l0 : List Int) (a1 : Int) (a2 : Int) : Option (Bool) := (halftonelaw03_fixed.f k).bind fun t125 => (if t125 = true then (if (l0.length : Int) > 2000 then (some true) else ((crc_Of.f k (([l0] : List (List Int)))).bind fun t129 => ((some (([] : List Int) : List Int)).bind fun y130 => (if y130.length + l0.length < 140737488355328 then ((some (y130 ++ l0 : List Int)).bind fun y133 => ((some (([(t129) % 256, (t129 / 256) % 256, (t129 / 65536) % 256, (t129 / 16777216) % 256] : List Int) : List Int)).bind fun y136 => (if y133.length + y136.length < 140737488355328 then ((some (y133 ++ y136 : List Int)).bind fun y139 => (if (wrap64 (8 * (y139.length : Int))) = 0 then (none) else ((halftonelaw03_Turned.f k y139 (Int.tmod (wrap64 (a1)) (wrap64 (8 * (y139.length : Int)))) a2).bind fun t142 => (if 0 ≤ (l0.length : Int) then (if (l0.length : Int) < (t142.length : Int) then (if 0 ≤ (wrap64 ((l0.length : Int) + 1)) then (if (wrap64 ((l0.length : Int) + 1)) < (t142.length : Int) then (if 0 ≤ (wrap64 ((l0.length : Int) + 2)) then (if (wrap64 ((l0.length : Int) + 2)) < (t142.length : Int) then (if 0 ≤ (wrap64 ((l0.length : Int) + 3)) then (if (wrap64 ((l0.length : Int) + 3)) < (t142.length : Int) then ((halftoneref01_Same.f y139 t142).bind fun t149 => (if (l0.length : Int) ≤ (t142.length : Int) then ((crc_Of.f k (([(t142.take ((l0.length : Int) : Int).toNat)] : List (List Int)))).bind fun t158 => (some (t149 == (t158 == (Go.bits .or .u32 (Go.bits .or .u32 (Go.bits .or .u32 ((rd t142 (l0.length : Int)) % 4294967296) ((((rd t142 (wrap64 ((l0.length : Int) + 1))) % 4294967296) * 256) % 4294967296)) ((((rd t142 (wrap64 ((l0.length : Int) + 2))) % 4294967296) * 65536) % 4294967296)) ((((rd t142 (wrap64 ((l0.length : Int) + 3))) % 4294967296) * 16777216) % 4294967296)))))) else (none))) else (none)) else (none)) else (none)) else (none)) else (none)) else (none)) else (none)) else (none))))) else (none)))) else (none))))) else (some false))
theorem halftonelaw03_CrcSealed.mono : ∀ a0 a1 a2 k, LeO (halftonelaw03_CrcSealed.f k a0 a1 a2) (halftonelaw03_CrcSealed.f (k + 1) a0 a1 a2) := by
  intro a0 a1 a2 k
  unfold halftonelaw03_CrcSealed.f
  repeat' first
      | (with_reducible exact crc_Of.mono _ _)
      | (with_reducible exact halftonelaw03_Turned.mono _ _ _ _)
      | (with_reducible exact halftonelaw03_fixed.mono _)
      | (with_reducible exact LeO.refl _)
      | (with_reducible exact LeO.none _)
      | (with_reducible refine LeO.ite ?_ ?_)
      | (with_reducible refine LeO.bind ?_ (fun _ => ?_))
      | exact crc_Of.mono _ _
      | exact halftonelaw03_Turned.mono _ _ _ _
      | exact halftonelaw03_fixed.mono _
      | exact LeO.none _
      | refine LeO.ite ?_ ?_
      | refine LeO.bind ?_ (fun _ => ?_)
def halftonelaw03_CrcSealed.T9 : Bool × List (List Nat × List Nat) := (true, [([], []), ([], []), ([0, 1], [0, 1]), ([2], [2]), ([3], [3]), ([], []), ([], []), ([6], [6]), ([5, 7], [5, 7]), ([8], [8]), ([9], [9]), ([10], [10]), ([4, 11], [4, 11]), ([], []), ([], []), ([14], [14]), ([13, 15], [13, 15]), ([16], [16]), ([17], [17]), ([18], [18]), ([12, 19], [12, 19]), ([], []), ([], []), ([22], [22]), ([21, 23], [21, 23]), ([24], [24]), ([25], [25]), ([26], [26]), ([20, 27], [20, 27]), ([28, 0, 1, 2, 3, 4, 5, 6, 7, 8, 9, 10, 11, 12, 13, 14, 15, 16, 17, 18, 19, 20, 21, 22, 23, 24, 25, 26, 27, 28], [28])])
def halftonelaw03_CrcSealed.B9 : List Nat := [0, 0, 3, 7, 15, 0, 0, 64, 224, 480, 992, 2016, 4095, 0, 0, 16384, 57344, 122880, 253952, 516096, 1048575, 0, 0, 4194304, 14680064, 31457280, 65011712, 132120576, 268435455, 536870911]
theorem halftonelaw03_CrcSealed.tab9 : rtab .any (opsOf Try.f7 9) = halftonelaw03_CrcSealed.T9 := by kernel_rfl
theorem halftonelaw03_CrcSealed.bits9 : waitsOk halftonelaw03_CrcSealed.T9.2 halftonelaw03_CrcSealed.B9 = true := by kernel_rfl
def halftonelaw03_CrcSealed.T10 : Bool × List (List Nat × List Nat) := (true, [([], []), ([], []), ([0, 1], [0, 1]), ([], []), ([], []), ([3, 4], [3, 4]), ([5], [5]), ([6, 2], [6]), ([], []), ([7, 8], [7, 8]), ([2, 9], [2, 9]), ([10, 7, 0, 1, 2, 3, 4, 5, 6, 7, 8, 9, 10], [10])])
def halftonelaw03_CrcSealed.B10 : List Nat := [0, 0, 3, 0, 0, 24, 56, 127, 0, 511, 1023, 2047]
theorem halftonelaw03_CrcSealed.tab10 : rtab .any (opsOf Try.f7 10) = halftonelaw03_CrcSealed.T10 := by kernel_rfl
theorem halftonelaw03_CrcSealed.bits10 : waitsOk halftonelaw03_CrcSealed.T10.2 halftonelaw03_CrcSealed.B10 = true := by kernel_rfl
set_option maxHeartbeats 8000000 in
set_option maxRecDepth 100000 in
theorem halftonelaw03_CrcSealed.calls (k : Nat) (A0 : Option Addr) (c0 : Nat) (l0 : List Int) (a1 : Int) (a2 : Int) (r : Bool) (w : World) (hr0 : Kd.C (Kd.int .u8) w A0 l0.length l0) (hc0 : l0.length ≤ c0) (h : halftonelaw03_CrcSealed.f k l0 a1 a2 = some r) :
    Calls Try.prog 7 #[.slice A0 l0.length c0, .int .u16 a1, .int .u32 a2] w fun e w' => e = .returned (.bool r) ∧ Below w.heap.size w w' := by
  have HR0 := Aside0.mk hr0
  have HC0 := Aside0.mk hc0
  clear hr0 hc0
  have HB := Aside0.mk (Below.refl w.heap.size w)
  have H : ((halftonelaw03_fixed.f k).bind fun t125 => (if t125 = true then (if (l0.length : Int) > 2000 then (some true) else ((crc_Of.f k (([l0] : List (List Int)))).bind fun t129 => ((some (([] : List Int) : List Int)).bind fun y130 => (if y130.length + l0.length < 140737488355328 then ((some (y130 ++ l0 : List Int)).bind fun y133 => ((some (([(t129) % 256, (t129 / 256) % 256, (t129 / 65536) % 256, (t129 / 16777216) % 256] : List Int) : List Int)).bind fun y136 => (if y133.length + y136.length < 140737488355328 then ((some (y133 ++ y136 : List Int)).bind fun y139 => (if (wrap64 (8 * (y139.length : Int))) = 0 then (none) else ((halftonelaw03_Turned.f k y139 (Int.tmod (wrap64 (a1)) (wrap64 (8 * (y139.length : Int)))) a2).bind fun t142 => (if 0 ≤ (l0.length : Int) then (if (l0.length : Int) < (t142.length : Int) then (if 0 ≤ (wrap64 ((l0.length : Int) + 1)) then (if (wrap64 ((l0.length : Int) + 1)) < (t142.length : Int) then (if 0 ≤ (wrap64 ((l0.length : Int) + 2)) then (if (wrap64 ((l0.length : Int) + 2)) < (t142.length : Int) then (if 0 ≤ (wrap64 ((l0.length : Int) + 3)) then (if (wrap64 ((l0.length : Int) + 3)) < (t142.length : Int) then ((halftoneref01_Same.f y139 t142).bind fun t149 => (if (l0.length : Int) ≤ (t142.length : Int) then ((crc_Of.f k (([(t142.take ((l0.length : Int) : Int).toNat)] : List (List Int)))).bind fun t158 => (some (t149 == (t158 == (Go.bits .or .u32 (Go.bits .or .u32 (Go.bits .or .u32 ((rd t142 (l0.length : Int)) % 4294967296) ((((rd t142 (wrap64 ((l0.length : Int) + 1))) % 4294967296) * 256) % 4294967296)) ((((rd t142 (wrap64 ((l0.length : Int) + 2))) % 4294967296) * 65536) % 4294967296)) ((((rd t142 (wrap64 ((l0.length : Int) + 3))) % 4294967296) * 16777216) % 4294967296)))))) else (none))) else (none)) else (none)) else (none)) else (none)) else (none)) else (none)) else (none)) else (none))))) else (none)))) else (none))))) else (some false))) = some r := h
  clear h
  replace H := Option.bind_eq_some_iff.mp H
  obtain ⟨t125, A40, H⟩ := H
  replace H : (if t125 = true then (if (l0.length : Int) > 2000 then (some true) else ((crc_Of.f k (([l0] : List (List Int)))).bind fun t129 => ((some (([] : List Int) : List Int)).bind fun y130 => (if y130.length + l0.length < 140737488355328 then ((some (y130 ++ l0 : List Int)).bind fun y133 => ((some (([(t129) % 256, (t129 / 256) % 256, (t129 / 65536) % 256, (t129 / 16777216) % 256] : List Int) : List Int)).bind fun y136 => (if y133.length + y136.length < 140737488355328 then ((some (y133 ++ y136 : List Int)).bind fun y139 => (if (wrap64 (8 * (y139.length : Int))) = 0 then (none) else ((halftonelaw03_Turned.f k y139 (Int.tmod (wrap64 (a1)) (wrap64 (8 * (y139.length : Int)))) a2).bind fun t142 => (if 0 ≤ (l0.length : Int) then (if (l0.length : Int) < (t142.length : Int) then (if 0 ≤ (wrap64 ((l0.length : Int) + 1)) then (if (wrap64 ((l0.length : Int) + 1)) < (t142.length : Int) then (if 0 ≤ (wrap64 ((l0.length : Int) + 2)) then (if (wrap64 ((l0.length : Int) + 2)) < (t142.length : Int) then (if 0 ≤ (wrap64 ((l0.length : Int) + 3)) then (if (wrap64 ((l0.length : Int) + 3)) < (t142.length : Int) then ((halftoneref01_Same.f y139 t142).bind fun t149 => (if (l0.length : Int) ≤ (t142.length : Int) then ((crc_Of.f k (([(t142.take ((l0.length : Int) : Int).toNat)] : List (List Int)))).bind fun t158 => (some (t149 == (t158 == (Go.bits .or .u32 (Go.bits .or .u32 (Go.bits .or .u32 ((rd t142 (l0.length : Int)) % 4294967296) ((((rd t142 (wrap64 ((l0.length : Int) + 1))) % 4294967296) * 256) % 4294967296)) ((((rd t142 (wrap64 ((l0.length : Int) + 2))) % 4294967296) * 65536) % 4294967296)) ((((rd t142 (wrap64 ((l0.length : Int) + 3))) % 4294967296) * 16777216) % 4294967296)))))) else (none))) else (none)) else (none)) else (none)) else (none)) else (none)) else (none)) else (none)) else (none))))) else (none)))) else (none))))) else (some false)) = some r := H
  have A4 := Aside0.mk A40
  clear A40
  by_cases c5 : t125 = true
  · subst c5
    have H1 : (if (l0.length : Int) > 2000 then (some true) else ((crc_Of.f k (([l0] : List (List Int)))).bind fun t129 => ((some (([] : List Int) : List Int)).bind fun y130 => (if y130.length + l0.length < 140737488355328 then ((some (y130 ++ l0 : List Int)).bind fun y133 => ((some (([(t129) % 256, (t129 / 256) % 256, (t129 / 65536) % 256, (t129 / 16777216) % 256] : List Int) : List Int)).bind fun y136 => (if y133.length + y136.length < 140737488355328 then ((some (y133 ++ y136 : List Int)).bind fun y139 => (if (wrap64 (8 * (y139.length : Int))) = 0 then (none) else ((halftonelaw03_Turned.f k y139 (Int.tmod (wrap64 (a1)) (wrap64 (8 * (y139.length : Int)))) a2).bind fun t142 => (if 0 ≤ (l0.length : Int) then (if (l0.length : Int) < (t142.length : Int) then (if 0 ≤ (wrap64 ((l0.length : Int) + 1)) then (if (wrap64 ((l0.length : Int) + 1)) < (t142.length : Int) then (if 0 ≤ (wrap64 ((l0.length : Int) + 2)) then (if (wrap64 ((l0.length : Int) + 2)) < (t142.length : Int) then (if 0 ≤ (wrap64 ((l0.length : Int) + 3)) then (if (wrap64 ((l0.length : Int) + 3)) < (t142.length : Int) then ((halftoneref01_Same.f y139 t142).bind fun t149 => (if (l0.length : Int) ≤ (t142.length : Int) then ((crc_Of.f k (([(t142.take ((l0.length : Int) : Int).toNat)] : List (List Int)))).bind fun t158 => (some (t149 == (t158 == (Go.bits .or .u32 (Go.bits .or .u32 (Go.bits .or .u32 ((rd t142 (l0.length : Int)) % 4294967296) ((((rd t142 (wrap64 ((l0.length : Int) + 1))) % 4294967296) * 256) % 4294967296)) ((((rd t142 (wrap64 ((l0.length : Int) + 2))) % 4294967296) * 65536) % 4294967296)) ((((rd t142 (wrap64 ((l0.length : Int) + 3))) % 4294967296) * 16777216) % 4294967296)))))) else (none))) else (none)) else (none)) else (none)) else (none)) else (none)) else (none)) else (none)) else (none))))) else (none)))) else (none))))) = some r := by rw [if_pos rfl] at H; exact H
    clear H
    have H := H1
    clear H1
    by_cases c6 : (l0.length : Int) > 2000
    · rw [if_pos c6] at H
      have c6b0 : decide (2000 < (l0.length : Int)) = true := decide_eq_true c6
      have c6b1 : decide (2000 < l0.length) = true := decide_eq_true (by omega)
      clear c6
      obtain rfl := Option.some.inj H
      go_enter Try.func7, Try.ntmps7
      go_wp2_with (first | ((with_reducible refine gate_callee (f := 8) rfl ?_); refine goesL_ (some 12) rfl rfl Try.func8 (by kernel_rfl) rfl #[] rfl (by (try simp only [List.map_toArray, List.map_cons, List.map_nil]); first | done | rfl | (simp only [List.length_drop, List.length_take]; rfl)) ?_; (with_reducible refine (halftonelaw03_fixed.calls k  true _ A4.out).mono ?_); rintro e w7 ⟨rfl, hb⟩; refine ⟨_, rfl, ?_⟩; have n0_ := Aside0.mk (below_step (by repeat (first | (with_reducible first | exact HB.out | apply below_alloc | apply pw_below_drewN | apply below_drew1) | exact HB.out)) hb); clear HB; have HB := n0_; clear n0_; (try clear hb); (try clear hb2); (try clear hk); (try clear hi)))
      go_ret
      exact ⟨by first | rfl | (simp [errW_none, errW_some] <;> rfl) | (simp [*, errW_none, errW_some] <;> rfl), by repeat (first | (with_reducible first | exact HB.out | apply below_alloc | apply pw_below_drewN | apply below_drew1) | exact HB.out)⟩
    · rw [if_neg c6] at H
      have c6b0 : decide (2000 < (l0.length : Int)) = false := decide_eq_false c6
      have c6b1 : decide (2000 < l0.length) = false := decide_eq_false (by omega)
      clear c6
      obtain ⟨y126, hy126⟩ : ∃ y_ : List (List Int), y_ = (([l0] : List (List Int))) := ⟨_, rfl⟩
      replace H : ((crc_Of.f k y126).bind fun t129 => ((some (([] : List Int) : List Int)).bind fun y130 => (if y130.length + l0.length < 140737488355328 then ((some (y130 ++ l0 : List Int)).bind fun y133 => ((some (([(t129) % 256, (t129 / 256) % 256, (t129 / 65536) % 256, (t129 / 16777216) % 256] : List Int) : List Int)).bind fun y136 => (if y133.length + y136.length < 140737488355328 then ((some (y133 ++ y136 : List Int)).bind fun y139 => (if (wrap64 (8 * (y139.length : Int))) = 0 then (none) else ((halftonelaw03_Turned.f k y139 (Int.tmod (wrap64 (a1)) (wrap64 (8 * (y139.length : Int)))) a2).bind fun t142 => (if 0 ≤ (l0.length : Int) then (if (l0.length : Int) < (t142.length : Int) then (if 0 ≤ (wrap64 ((l0.length : Int) + 1)) then (if (wrap64 ((l0.length : Int) + 1)) < (t142.length : Int) then (if 0 ≤ (wrap64 ((l0.length : Int) + 2)) then (if (wrap64 ((l0.length : Int) + 2)) < (t142.length : Int) then (if 0 ≤ (wrap64 ((l0.length : Int) + 3)) then (if (wrap64 ((l0.length : Int) + 3)) < (t142.length : Int) then ((halftoneref01_Same.f y139 t142).bind fun t149 => (if (l0.length : Int) ≤ (t142.length : Int) then ((crc_Of.f k (([(t142.take ((l0.length : Int) : Int).toNat)] : List (List Int)))).bind fun t158 => (some (t149 == (t158 == (Go.bits .or .u32 (Go.bits .or .u32 (Go.bits .or .u32 ((rd t142 (l0.length : Int)) % 4294967296) ((((rd t142 (wrap64 ((l0.length : Int) + 1))) % 4294967296) * 256) % 4294967296)) ((((rd t142 (wrap64 ((l0.length : Int) + 2))) % 4294967296) * 65536) % 4294967296)) ((((rd t142 (wrap64 ((l0.length : Int) + 3))) % 4294967296) * 16777216) % 4294967296)))))) else (none))) else (none)) else (none)) else (none)) else (none)) else (none)) else (none)) else (none)) else (none))))) else (none)))) else (none)))) = some r := by first | (rw [hy126]; with_reducible exact H) | (have H2_ := (Option.bind_some _ _).symm.trans H; rw [hy126]; with_reducible exact H2_) | (have H2_ := (Option.bind_some _ _).symm.trans H; with_reducible exact H2_) | with_reducible exact H | (rw [hy126]; exact H) | exact H
      have Ny126 := Aside0.mk hy126
      clear hy126
      replace H := Option.bind_eq_some_iff.mp H
      obtain ⟨t129, A80, H⟩ := H
      replace H : ((some (([] : List Int) : List Int)).bind fun y130 => (if y130.length + l0.length < 140737488355328 then ((some (y130 ++ l0 : List Int)).bind fun y133 => ((some (([(t129) % 256, (t129 / 256) % 256, (t129 / 65536) % 256, (t129 / 16777216) % 256] : List Int) : List Int)).bind fun y136 => (if y133.length + y136.length < 140737488355328 then ((some (y133 ++ y136 : List Int)).bind fun y139 => (if (wrap64 (8 * (y139.length : Int))) = 0 then (none) else ((halftonelaw03_Turned.f k y139 (Int.tmod (wrap64 (a1)) (wrap64 (8 * (y139.length : Int)))) a2).bind fun t142 => (if 0 ≤ (l0.length : Int) then (if (l0.length : Int) < (t142.length : Int) then (if 0 ≤ (wrap64 ((l0.length : Int) + 1)) then (if (wrap64 ((l0.length : Int) + 1)) < (t142.length : Int) then (if 0 ≤ (wrap64 ((l0.length : Int) + 2)) then (if (wrap64 ((l0.length : Int) + 2)) < (t142.length : Int) then (if 0 ≤ (wrap64 ((l0.length : Int) + 3)) then (if (wrap64 ((l0.length : Int) + 3)) < (t142.length : Int) then ((halftoneref01_Same.f y139 t142).bind fun t149 => (if (l0.length : Int) ≤ (t142.length : Int) then ((crc_Of.f k (([(t142.take ((l0.length : Int) : Int).toNat)] : List (List Int)))).bind fun t158 => (some (t149 == (t158 == (Go.bits .or .u32 (Go.bits .or .u32 (Go.bits .or .u32 ((rd t142 (l0.length : Int)) % 4294967296) ((((rd t142 (wrap64 ((l0.length : Int) + 1))) % 4294967296) * 256) % 4294967296)) ((((rd t142 (wrap64 ((l0.length : Int) + 2))) % 4294967296) * 65536) % 4294967296)) ((((rd t142 (wrap64 ((l0.length : Int) + 3))) % 4294967296) * 16777216) % 4294967296)))))) else (none))) else (none)) else (none)) else (none)) else (none)) else (none)) else (none)) else (none)) else (none))))) else (none)))) else (none))) = some r := H
      have A8 := Aside0.mk A80
      clear A80
      obtain ⟨y130, hy130⟩ : ∃ y_ : List Int, y_ = (([] : List Int)) := ⟨_, rfl⟩
      replace H : (if y130.length + l0.length < 140737488355328 then ((some (y130 ++ l0 : List Int)).bind fun y133 => ((some (([(t129) % 256, (t129 / 256) % 256, (t129 / 65536) % 256, (t129 / 16777216) % 256] : List Int) : List Int)).bind fun y136 => (if y133.length + y136.length < 140737488355328 then ((some (y133 ++ y136 : List Int)).bind fun y139 => (if (wrap64 (8 * (y139.length : Int))) = 0 then (none) else ((halftonelaw03_Turned.f k y139 (Int.tmod (wrap64 (a1)) (wrap64 (8 * (y139.length : Int)))) a2).bind fun t142 => (if 0 ≤ (l0.length : Int) then (if (l0.length : Int) < (t142.length : Int) then (if 0 ≤ (wrap64 ((l0.length : Int) + 1)) then (if (wrap64 ((l0.length : Int) + 1)) < (t142.length : Int) then (if 0 ≤ (wrap64 ((l0.length : Int) + 2)) then (if (wrap64 ((l0.length : Int) + 2)) < (t142.length : Int) then (if 0 ≤ (wrap64 ((l0.length : Int) + 3)) then (if (wrap64 ((l0.length : Int) + 3)) < (t142.length : Int) then ((halftoneref01_Same.f y139 t142).bind fun t149 => (if (l0.length : Int) ≤ (t142.length : Int) then ((crc_Of.f k (([(t142.take ((l0.length : Int) : Int).toNat)] : List (List Int)))).bind fun t158 => (some (t149 == (t158 == (Go.bits .or .u32 (Go.bits .or .u32 (Go.bits .or .u32 ((rd t142 (l0.length : Int)) % 4294967296) ((((rd t142 (wrap64 ((l0.length : Int) + 1))) % 4294967296) * 256) % 4294967296)) ((((rd t142 (wrap64 ((l0.length : Int) + 2))) % 4294967296) * 65536) % 4294967296)) ((((rd t142 (wrap64 ((l0.length : Int) + 3))) % 4294967296) * 16777216) % 4294967296)))))) else (none))) else (none)) else (none)) else (none)) else (none)) else (none)) else (none)) else (none)) else (none))))) else (none)))) else (none)) = some r := by first | (rw [hy130]; with_reducible exact H) | (have H2_ := (Option.bind_some _ _).symm.trans H; rw [hy130]; with_reducible exact H2_) | (have H2_ := (Option.bind_some _ _).symm.trans H; with_reducible exact H2_) | with_reducible exact H | (rw [hy130]; exact H) | exact H
      have Ny130 := Aside0.mk hy130
      clear hy130
      by_cases c9 : y130.length + l0.length < 140737488355328
      · rw [if_pos c9] at H
        have LMc9 := Aside0.mk c9
        clear c9
        obtain ⟨y133, hy133⟩ : ∃ y_ : List Int, y_ = (y130 ++ l0) := ⟨_, rfl⟩
        replace H : ((some (([(t129) % 256, (t129 / 256) % 256, (t129 / 65536) % 256, (t129 / 16777216) % 256] : List Int) : List Int)).bind fun y136 => (if y133.length + y136.length < 140737488355328 then ((some (y133 ++ y136 : List Int)).bind fun y139 => (if (wrap64 (8 * (y139.length : Int))) = 0 then (none) else ((halftonelaw03_Turned.f k y139 (Int.tmod (wrap64 (a1)) (wrap64 (8 * (y139.length : Int)))) a2).bind fun t142 => (if 0 ≤ (l0.length : Int) then (if (l0.length : Int) < (t142.length : Int) then (if 0 ≤ (wrap64 ((l0.length : Int) + 1)) then (if (wrap64 ((l0.length : Int) + 1)) < (t142.length : Int) then (if 0 ≤ (wrap64 ((l0.length : Int) + 2)) then (if (wrap64 ((l0.length : Int) + 2)) < (t142.length : Int) then (if 0 ≤ (wrap64 ((l0.length : Int) + 3)) then (if (wrap64 ((l0.length : Int) + 3)) < (t142.length : Int) then ((halftoneref01_Same.f y139 t142).bind fun t149 => (if (l0.length : Int) ≤ (t142.length : Int) then ((crc_Of.f k (([(t142.take ((l0.length : Int) : Int).toNat)] : List (List Int)))).bind fun t158 => (some (t149 == (t158 == (Go.bits .or .u32 (Go.bits .or .u32 (Go.bits .or .u32 ((rd t142 (l0.length : Int)) % 4294967296) ((((rd t142 (wrap64 ((l0.length : Int) + 1))) % 4294967296) * 256) % 4294967296)) ((((rd t142 (wrap64 ((l0.length : Int) + 2))) % 4294967296) * 65536) % 4294967296)) ((((rd t142 (wrap64 ((l0.length : Int) + 3))) % 4294967296) * 16777216) % 4294967296)))))) else (none))) else (none)) else (none)) else (none)) else (none)) else (none)) else (none)) else (none)) else (none))))) else (none))) = some r := by first | (rw [hy133]; with_reducible exact H) | (have H2_ := (Option.bind_some _ _).symm.trans H; rw [hy133]; with_reducible exact H2_) | (have H2_ := (Option.bind_some _ _).symm.trans H; with_reducible exact H2_) | with_reducible exact H | (rw [hy133]; exact H) | exact H
        have Ny133 := Aside0.mk hy133
        clear hy133
        obtain ⟨y136, hy136⟩ : ∃ y_ : List Int, y_ = (([(t129) % 256, (t129 / 256) % 256, (t129 / 65536) % 256, (t129 / 16777216) % 256] : List Int)) := ⟨_, rfl⟩
        replace H : (if y133.length + y136.length < 140737488355328 then ((some (y133 ++ y136 : List Int)).bind fun y139 => (if (wrap64 (8 * (y139.length : Int))) = 0 then (none) else ((halftonelaw03_Turned.f k y139 (Int.tmod (wrap64 (a1)) (wrap64 (8 * (y139.length : Int)))) a2).bind fun t142 => (if 0 ≤ (l0.length : Int) then (if (l0.length : Int) < (t142.length : Int) then (if 0 ≤ (wrap64 ((l0.length : Int) + 1)) then (if (wrap64 ((l0.length : Int) + 1)) < (t142.length : Int) then (if 0 ≤ (wrap64 ((l0.length : Int) + 2)) then (if (wrap64 ((l0.length : Int) + 2)) < (t142.length : Int) then (if 0 ≤ (wrap64 ((l0.length : Int) + 3)) then (if (wrap64 ((l0.length : Int) + 3)) < (t142.length : Int) then ((halftoneref01_Same.f y139 t142).bind fun t149 => (if (l0.length : Int) ≤ (t142.length : Int) then ((crc_Of.f k (([(t142.take ((l0.length : Int) : Int).toNat)] : List (List Int)))).bind fun t158 => (some (t149 == (t158 == (Go.bits .or .u32 (Go.bits .or .u32 (Go.bits .or .u32 ((rd t142 (l0.length : Int)) % 4294967296) ((((rd t142 (wrap64 ((l0.length : Int) + 1))) % 4294967296) * 256) % 4294967296)) ((((rd t142 (wrap64 ((l0.length : Int) + 2))) % 4294967296) * 65536) % 4294967296)) ((((rd t142 (wrap64 ((l0.length : Int) + 3))) % 4294967296) * 16777216) % 4294967296)))))) else (none))) else (none)) else (none)) else (none)) else (none)) else (none)) else (none)) else (none)) else (none))))) else (none)) = some r := by first | (rw [hy136]; with_reducible exact H) | (have H2_ := (Option.bind_some _ _).symm.trans H; rw [hy136]; with_reducible exact H2_) | (have H2_ := (Option.bind_some _ _).symm.trans H; with_reducible exact H2_) | with_reducible exact H | (rw [hy136]; exact H) | exact H
        have Ny136 := Aside0.mk hy136
        clear hy136
        by_cases c10 : y133.length + y136.length < 140737488355328
        · rw [if_pos c10] at H
          have LMc10 := Aside0.mk c10
          clear c10
          obtain ⟨y139, hy139⟩ : ∃ y_ : List Int, y_ = (y133 ++ y136) := ⟨_, rfl⟩
          replace H : (if (wrap64 (8 * (y139.length : Int))) = 0 then (none) else ((halftonelaw03_Turned.f k y139 (Int.tmod (wrap64 (a1)) (wrap64 (8 * (y139.length : Int)))) a2).bind fun t142 => (if 0 ≤ (l0.length : Int) then (if (l0.length : Int) < (t142.length : Int) then (if 0 ≤ (wrap64 ((l0.length : Int) + 1)) then (if (wrap64 ((l0.length : Int) + 1)) < (t142.length : Int) then (if 0 ≤ (wrap64 ((l0.length : Int) + 2)) then (if (wrap64 ((l0.length : Int) + 2)) < (t142.length : Int) then (if 0 ≤ (wrap64 ((l0.length : Int) + 3)) then (if (wrap64 ((l0.length : Int) + 3)) < (t142.length : Int) then ((halftoneref01_Same.f y139 t142).bind fun t149 => (if (l0.length : Int) ≤ (t142.length : Int) then ((crc_Of.f k (([(t142.take ((l0.length : Int) : Int).toNat)] : List (List Int)))).bind fun t158 => (some (t149 == (t158 == (Go.bits .or .u32 (Go.bits .or .u32 (Go.bits .or .u32 ((rd t142 (l0.length : Int)) % 4294967296) ((((rd t142 (wrap64 ((l0.length : Int) + 1))) % 4294967296) * 256) % 4294967296)) ((((rd t142 (wrap64 ((l0.length : Int) + 2))) % 4294967296) * 65536) % 4294967296)) ((((rd t142 (wrap64 ((l0.length : Int) + 3))) % 4294967296) * 16777216) % 4294967296)))))) else (none))) else (none)) else (none)) else (none)) else (none)) else (none)) else (none)) else (none)) else (none)))) = some r := by first | (rw [hy139]; with_reducible exact H) | (have H2_ := (Option.bind_some _ _).symm.trans H; rw [hy139]; with_reducible exact H2_) | (have H2_ := (Option.bind_some _ _).symm.trans H; with_reducible exact H2_) | with_reducible exact H | (rw [hy139]; exact H) | exact H
          have Ny139 := Aside0.mk hy139
          clear hy139
          by_cases c11 : (wrap64 (8 * (y139.length : Int))) = 0
          · rw [if_pos c11] at H
            exact absurd H (by simp)
          · rw [if_neg c11] at H
            have c11b0 : ((wrap64 (8 * (y139.length : Int))) == 0) = false := beq_eq_false_iff_ne.mpr c11
            have c11b1 : ((wrap64 (8 * (y139.length : Int))) != 0) = true := bne_iff_ne.mpr c11
            replace H := Option.bind_eq_some_iff.mp H
            obtain ⟨t142, A120, H⟩ := H
            replace H : (if 0 ≤ (l0.length : Int) then (if (l0.length : Int) < (t142.length : Int) then (if 0 ≤ (wrap64 ((l0.length : Int) + 1)) then (if (wrap64 ((l0.length : Int) + 1)) < (t142.length : Int) then (if 0 ≤ (wrap64 ((l0.length : Int) + 2)) then (if (wrap64 ((l0.length : Int) + 2)) < (t142.length : Int) then (if 0 ≤ (wrap64 ((l0.length : Int) + 3)) then (if (wrap64 ((l0.length : Int) + 3)) < (t142.length : Int) then ((halftoneref01_Same.f y139 t142).bind fun t149 => (if (l0.length : Int) ≤ (t142.length : Int) then ((crc_Of.f k (([(t142.take ((l0.length : Int) : Int).toNat)] : List (List Int)))).bind fun t158 => (some (t149 == (t158 == (Go.bits .or .u32 (Go.bits .or .u32 (Go.bits .or .u32 ((rd t142 (l0.length : Int)) % 4294967296) ((((rd t142 (wrap64 ((l0.length : Int) + 1))) % 4294967296) * 256) % 4294967296)) ((((rd t142 (wrap64 ((l0.length : Int) + 2))) % 4294967296) * 65536) % 4294967296)) ((((rd t142 (wrap64 ((l0.length : Int) + 3))) % 4294967296) * 16777216) % 4294967296)))))) else (none))) else (none)) else (none)) else (none)) else (none)) else (none)) else (none)) else (none)) else (none)) = some r := H
            have A12 := Aside0.mk A120
            clear A120
            by_cases c13 : 0 ≤ (l0.length : Int)
            · rw [if_pos c13] at H
              have c13b0 : decide (0 ≤ (l0.length : Int)) = true := decide_eq_true c13
              have c13b1 : decide (0 ≤ l0.length) = true := decide_eq_true (by omega)
              clear c13
              by_cases c14 : (l0.length : Int) < (t142.length : Int)
              · rw [if_pos c14] at H
                have c14b0 : decide ((l0.length : Int) < (t142.length : Int)) = true := decide_eq_true c14
                have c14b1 : decide (l0.length < t142.length) = true := decide_eq_true (Int.ofNat_lt.mp c14)
                clear c14
                obtain ⟨ji15, hji15⟩ : ∃ j_ : Int, (wrap64 ((l0.length : Int) + 1)) = j_ := ⟨_, rfl⟩
                replace H : (if 0 ≤ (ji15) then (if (ji15) < (t142.length : Int) then (if 0 ≤ (wrap64 ((l0.length : Int) + 2)) then (if (wrap64 ((l0.length : Int) + 2)) < (t142.length : Int) then (if 0 ≤ (wrap64 ((l0.length : Int) + 3)) then (if (wrap64 ((l0.length : Int) + 3)) < (t142.length : Int) then ((halftoneref01_Same.f y139 t142).bind fun t149 => (if (l0.length : Int) ≤ (t142.length : Int) then ((crc_Of.f k (([(t142.take ((l0.length : Int) : Int).toNat)] : List (List Int)))).bind fun t158 => (some (t149 == (t158 == (Go.bits .or .u32 (Go.bits .or .u32 (Go.bits .or .u32 ((rd t142 (l0.length : Int)) % 4294967296) ((((rd t142 (ji15)) % 4294967296) * 256) % 4294967296)) ((((rd t142 (wrap64 ((l0.length : Int) + 2))) % 4294967296) * 65536) % 4294967296)) ((((rd t142 (wrap64 ((l0.length : Int) + 3))) % 4294967296) * 16777216) % 4294967296)))))) else (none))) else (none)) else (none)) else (none)) else (none)) else (none)) else (none)) = some r := by first | (rw [hji15] at H; exact H) | (simp only [hji15] at H ⊢; exact H)
                (try rw [hji15] at A4)
                (try rw [hji15] at A8)
                (try rw [hji15] at A12)
                have hji15w : (IntKind.i64.wrap ((l0.length : Int) + 1)) = ji15 := (i64_w _).trans hji15
                by_cases c16 : 0 ≤ (ji15)
                · rw [if_pos c16] at H
                  have c16b0 : decide (0 ≤ (ji15)) = true := decide_eq_true c16
                  clear c16
                  by_cases c17 : (ji15) < (t142.length : Int)
                  · rw [if_pos c17] at H
                    have c17b0 : decide ((ji15) < (t142.length : Int)) = true := decide_eq_true c17
                    clear c17
                    obtain ⟨ji18, hji18⟩ : ∃ j_ : Int, (wrap64 ((l0.length : Int) + 2)) = j_ := ⟨_, rfl⟩
                    replace H : (if 0 ≤ (ji18) then (if (ji18) < (t142.length : Int) then (if 0 ≤ (wrap64 ((l0.length : Int) + 3)) then (if (wrap64 ((l0.length : Int) + 3)) < (t142.length : Int) then ((halftoneref01_Same.f y139 t142).bind fun t149 => (if (l0.length : Int) ≤ (t142.length : Int) then ((crc_Of.f k (([(t142.take ((l0.length : Int) : Int).toNat)] : List (List Int)))).bind fun t158 => (some (t149 == (t158 == (Go.bits .or .u32 (Go.bits .or .u32 (Go.bits .or .u32 ((rd t142 (l0.length : Int)) % 4294967296) ((((rd t142 (ji15)) % 4294967296) * 256) % 4294967296)) ((((rd t142 (ji18)) % 4294967296) * 65536) % 4294967296)) ((((rd t142 (wrap64 ((l0.length : Int) + 3))) % 4294967296) * 16777216) % 4294967296)))))) else (none))) else (none)) else (none)) else (none)) else (none)) = some r := by first | (rw [hji18] at H; exact H) | (simp only [hji18] at H ⊢; exact H)
                    (try rw [hji18] at A4)
                    (try rw [hji18] at A8)
                    (try rw [hji18] at A12)
                    have hji18w : (IntKind.i64.wrap ((l0.length : Int) + 2)) = ji18 := (i64_w _).trans hji18
                    by_cases c19 : 0 ≤ (ji18)
                    · rw [if_pos c19] at H
                      have c19b0 : decide (0 ≤ (ji18)) = true := decide_eq_true c19
                      clear c19
                      by_cases c20 : (ji18) < (t142.length : Int)
                      · rw [if_pos c20] at H
                        have c20b0 : decide ((ji18) < (t142.length : Int)) = true := decide_eq_true c20
                        clear c20
                        obtain ⟨ji21, hji21⟩ : ∃ j_ : Int, (wrap64 ((l0.length : Int) + 3)) = j_ := ⟨_, rfl⟩
                        replace H : (if 0 ≤ (ji21) then (if (ji21) < (t142.length : Int) then ((halftoneref01_Same.f y139 t142).bind fun t149 => (if (l0.length : Int) ≤ (t142.length : Int) then ((crc_Of.f k (([(t142.take ((l0.length : Int) : Int).toNat)] : List (List Int)))).bind fun t158 => (some (t149 == (t158 == (Go.bits .or .u32 (Go.bits .or .u32 (Go.bits .or .u32 ((rd t142 (l0.length : Int)) % 4294967296) ((((rd t142 (ji15)) % 4294967296) * 256) % 4294967296)) ((((rd t142 (ji18)) % 4294967296) * 65536) % 4294967296)) ((((rd t142 (ji21)) % 4294967296) * 16777216) % 4294967296)))))) else (none))) else (none)) else (none)) = some r := by first | (rw [hji21] at H; exact H) | (simp only [hji21] at H ⊢; exact H)
                        (try rw [hji21] at A4)
                        (try rw [hji21] at A8)
                        (try rw [hji21] at A12)
                        have hji21w : (IntKind.i64.wrap ((l0.length : Int) + 3)) = ji21 := (i64_w _).trans hji21
                        by_cases c22 : 0 ≤ (ji21)
                        · rw [if_pos c22] at H
                          have c22b0 : decide (0 ≤ (ji21)) = true := decide_eq_true c22
                          clear c22
                          by_cases c23 : (ji21) < (t142.length : Int)
                          · rw [if_pos c23] at H
                            have c23b0 : decide ((ji21) < (t142.length : Int)) = true := decide_eq_true c23
                            clear c23
                            replace H := Option.bind_eq_some_iff.mp H
                            obtain ⟨t149, A240, H⟩ := H
                            replace H : (if (l0.length : Int) ≤ (t142.length : Int) then ((crc_Of.f k (([(t142.take ((l0.length : Int) : Int).toNat)] : List (List Int)))).bind fun t158 => (some (t149 == (t158 == (Go.bits .or .u32 (Go.bits .or .u32 (Go.bits .or .u32 ((rd t142 (l0.length : Int)) % 4294967296) ((((rd t142 (ji15)) % 4294967296) * 256) % 4294967296)) ((((rd t142 (ji18)) % 4294967296) * 65536) % 4294967296)) ((((rd t142 (ji21)) % 4294967296) * 16777216) % 4294967296)))))) else (none)) = some r := H
                            have A24 := Aside0.mk A240
                            clear A240
                            have c25b0 := eq_true (of_decide_eq_true (by first | (with_reducible assumption) | assumption) : 0 ≤ (l0.length : Int))
                            by_cases c26 : (l0.length : Int) ≤ (t142.length : Int)
                            · rw [if_pos c26] at H
                              have c26b0 := eq_true c26
                              have c26b1 : decide ((l0.length : Int) ≤ (t142.length : Int)) = true := decide_eq_true c26
                              clear c26
                              obtain ⟨y150, hy150⟩ : ∃ y_ : List Int, y_ = (t142.take ((l0.length : Int) : Int).toNat) := ⟨_, rfl⟩
                              replace H : ((crc_Of.f k (([y150] : List (List Int)))).bind fun t158 => (some (t149 == (t158 == (Go.bits .or .u32 (Go.bits .or .u32 (Go.bits .or .u32 ((rd t142 (l0.length : Int)) % 4294967296) ((((rd t142 (ji15)) % 4294967296) * 256) % 4294967296)) ((((rd t142 (ji18)) % 4294967296) * 65536) % 4294967296)) ((((rd t142 (ji21)) % 4294967296) * 16777216) % 4294967296)))))) = some r := by first | (rw [hy150]; with_reducible exact H) | (have H2_ := (Option.bind_some _ _).symm.trans H; rw [hy150]; with_reducible exact H2_) | (have H2_ := (Option.bind_some _ _).symm.trans H; with_reducible exact H2_) | with_reducible exact H | (rw [hy150]; exact H) | exact H
                              have Ny150 := Aside0.mk hy150
                              clear hy150
                              obtain ⟨y155, hy155⟩ : ∃ y_ : List (List Int), y_ = (([y150] : List (List Int))) := ⟨_, rfl⟩
                              replace H : ((crc_Of.f k y155).bind fun t158 => (some (t149 == (t158 == (Go.bits .or .u32 (Go.bits .or .u32 (Go.bits .or .u32 ((rd t142 (l0.length : Int)) % 4294967296) ((((rd t142 (ji15)) % 4294967296) * 256) % 4294967296)) ((((rd t142 (ji18)) % 4294967296) * 65536) % 4294967296)) ((((rd t142 (ji21)) % 4294967296) * 16777216) % 4294967296)))))) = some r := by first | (rw [hy155]; with_reducible exact H) | (have H2_ := (Option.bind_some _ _).symm.trans H; rw [hy155]; with_reducible exact H2_) | (have H2_ := (Option.bind_some _ _).symm.trans H; with_reducible exact H2_) | with_reducible exact H | (rw [hy155]; exact H) | exact H
                              have Ny155 := Aside0.mk hy155
                              clear hy155
                              replace H := Option.bind_eq_some_iff.mp H
                              obtain ⟨t158, A270, H⟩ := H
                              replace H : (some (t149 == (t158 == (Go.bits .or .u32 (Go.bits .or .u32 (Go.bits .or .u32 ((rd t142 (l0.length : Int)) % 4294967296) ((((rd t142 (ji15)) % 4294967296) * 256) % 4294967296)) ((((rd t142 (ji18)) % 4294967296) * 65536) % 4294967296)) ((((rd t142 (ji21)) % 4294967296) * 16777216) % 4294967296))))) = some r := H
                              have A27 := Aside0.mk A270
                              clear A270
                              obtain rfl := Option.some.inj H
                              go_enter Try.func7, Try.ntmps7
                              try go_wp2_with (first | ((with_reducible refine gate_callee (f := 8) rfl ?_); refine goesL_ (some 12) rfl rfl Try.func8 (by kernel_rfl) rfl #[] rfl (by (try simp only [List.map_toArray, List.map_cons, List.map_nil]); first | done | rfl | (simp only [List.length_drop, List.length_take]; rfl)) ?_; (with_reducible refine (halftonelaw03_fixed.calls k  true _ A4.out).mono ?_); rintro e w28 ⟨rfl, hb⟩; refine ⟨_, rfl, ?_⟩; have n0_ := Aside0.mk (below_step (by repeat (first | (with_reducible first | exact HB.out | apply below_alloc | apply pw_below_drewN | apply below_drew1) | exact HB.out)) hb); clear HB; have HB := n0_; clear n0_; (try clear hb); (try clear hb2); (try clear hk); (try clear hi)) | ((with_reducible refine gate_dst (N := 18) rfl ?_); refine Kd.N_lit (Kd.slice 5 (Kd.int .u8)) _ 23 ?hg (N' := 18) ?hd (xs := ([l0] : List (List Int))) (inner := [.slice A0 l0.length c0]) (ok := (fun _ => True)) (okp := (fun _ => True)) ?hr ?hp (fun _ hk => hk) ((show ∀ k_, w28.heap.size ≤ k_ → (fun _ => True) k_ from fun k_ hk => trivial) _ (Nat.le_refl _)) (Below.refl _ _) (Nat.le_refl _) (by simp) ?_; (case hd => rfl); (case hg => rfl); (case hr => first | (go_simp; done) | (go_simp; rfl)); (case hp => exact (Reps.one (show Kd.FK (Kd.slice 5 (Kd.int .u8)) _ _ l0 [.slice A0 l0.length c0] from (Kd.FK_slice_mk HC0.out (Kd.F_mono (ok' := (fun _ => True)) (Kd.F_below (Kd.C_F (Kd.heap_int .u8) HR0.out) (by repeat (first | (with_reducible first | exact HB.out | apply below_alloc | apply pw_below_drewN | apply below_drew1) | exact HB.out))) (fun k_ hk => trivial)))) (Reps.none _ _))); intro v127 w29 ho30 hb hg_ hnew_; clear hg_ hnew_; (first | rw [← Ny126.out] at ho30 | (simp only [Int.reduceToNat] at ho30; rw [← Ny126.out] at ho30)); have n0_ := Aside0.mk (Kd.N_lower ho30 (below_size (by repeat (first | (with_reducible first | exact HB.out | apply below_alloc | apply pw_below_drewN | apply below_drew1) | exact HB.out)))); have n1_ := Aside0.mk (below_step (by repeat (first | (with_reducible first | exact HB.out | apply below_alloc | apply pw_below_drewN | apply below_drew1) | exact HB.out)) hb); clear HB; have HO128 := n0_; have HB := n1_; clear n0_ n1_; clear hb ho30; obtain ⟨Ao31, co31, eo31⟩ := Kd.N_slice HO128.out; subst eo31) | ((with_reducible refine gate_callee (f := 11) rfl ?_); refine goesL_ (some 19) rfl rfl Try.func11 (by kernel_rfl) rfl #[.slice Ao31 y126.length co31] rfl (by (try simp only [List.map_toArray, List.map_cons, List.map_nil]); first | done | rfl | (simp only [List.length_drop, List.length_take]; rfl)) ?_; (with_reducible refine (crc_Of.calls k _ _ y126 t129 _ ?side1 ?side2 A8.out).mono ?_); (case side1 => repeat (first | exact (Kd.N_reads' HO128.out).2.2 | (with_reducible refine Kd.C_alloc ?_ _) | (with_reducible refine Kd.C_drewN ?_ _) | (with_reducible refine Kd.C_drew ?_))); (case side2 => exact (Kd.N_reads' HO128.out).2.1); rintro e w' ⟨rfl, ⟨nd, rfl⟩⟩; refine ⟨_, rfl, ?_⟩) | ((with_reducible refine gate_dst (N := 20) rfl ?_); refine Kd.R_lit (Kd.int .u8) _ 5 ?hg (N := 20) ?hd (xs := ([] : List Int)) (inner := []) (ok := fun _ => True) (okp := fun _ => True) ?hr ?hp (fun _ hk => hk) trivial (Below.refl _ _) (Nat.le_refl _) (by simp) ?_; (case hd => rfl); (case hg => rfl); (case hr => first | (go_simp; done) | (go_simp; rfl)); (case hp => exact (Reps.none _ _)); intro v131 w32 ho33 hb hg_ hnew_; clear hg_ hnew_; (first | rw [← Ny130.out] at ho33 | (simp only [Int.reduceToNat] at ho33; rw [← Ny130.out] at ho33)); have n0_ := Aside0.mk (Kd.N_elder' (by (with_reducible repeat (first | apply Kd.N_alloc | apply Kd.N_drewN | apply Kd.N_drew)); exact HO128.out) (Kd.R_base ho33) hb); have n1_ := Aside0.mk (Kd.R_lower ho33 (below_size (by repeat (first | (with_reducible first | exact HB.out | apply below_alloc | apply pw_below_drewN | apply below_drew1) | exact HB.out)))); have n2_ := Aside0.mk (below_step (by repeat (first | (with_reducible first | exact HB.out | apply below_alloc | apply pw_below_drewN | apply below_drew1) | exact HB.out)) hb); clear HO128; clear HB; have HO128 := n0_; have HO132 := n1_; have HB := n2_; clear n0_ n1_ n2_; clear hb ho33) | ((with_reducible refine gate_builtin (b := .append) (xs := #[.tmp 20, .tmp 21]) rfl ?_); at_builtin; refine Kd.R_append_rows (Kd.int .u8) (w0 := w) w.heap.size rfl (.tmp 20) (.tmp 21) 23 5 (.int .u8 0) 1 rfl Try.underlying23 info5 rfl (by decide) (by omega) v131 y130 l0 _ _ _ (fun _ => True) (fun _ => False) rfl rfl ?aO ?aR (fun _ _ h => h) (fun _ h => h.elim) ?aF ?aB ?aS ?aL ?_; (case aR => repeat (first | exact (Kd.C_below HR0.out HB.out) | (with_reducible refine Kd.C_alloc ?_ _) | (with_reducible refine Kd.C_drewN ?_ _) | (with_reducible refine Kd.C_drew ?_))); (case aB => exact (by repeat (first | (with_reducible first | exact HB.out | apply below_alloc | apply pw_below_drewN | apply below_drew1) | exact HB.out))); (case aF => exact (fun _ _ => trivial)); (case aO => exact (by (with_reducible repeat (first | apply Kd.R_alloc | apply Kd.R_drewN | apply Kd.R_drew)); exact HO132.out)); (case aS => exact (below_size (by repeat (first | (with_reducible first | exact HB.out | apply below_alloc | apply pw_below_drewN | apply below_drew1) | exact HB.out)))); (case aL => have := LMc9.out; omega); intro v134 w34 ho hb hg hat; rw [← Ny133.out] at ho; have n0_ := Aside0.mk (Kd.N_afterv (ok := (fun _ => True)) (by (with_reducible repeat (first | apply Kd.N_alloc | apply Kd.N_drewN | apply Kd.N_drew)); exact HO128.out) hg hat); have n1_ := Aside0.mk (hb); have n2_ := Aside0.mk (ho); clear HO128; clear HB; clear HO132; have HO128 := n0_; have HB := n1_; have HO135 := n2_; clear n0_ n1_ n2_; clear ho hb hg hat) | ((with_reducible refine gate_dst (N := 34) rfl ?_); refine Kd.R_lit (Kd.int .u8) _ 5 ?hg (N := 34) ?hd (xs := ([(t129) % 256, (t129 / 256) % 256, (t129 / 65536) % 256, (t129 / 16777216) % 256] : List Int)) (inner := [.int .u8 ((t129) % 256), .int .u8 ((t129 / 256) % 256), .int .u8 ((t129 / 65536) % 256), .int .u8 ((t129 / 16777216) % 256)]) (ok := fun _ => True) (okp := fun _ => True) ?hr ?hp (fun _ hk => hk) trivial (Below.refl _ _) (Nat.le_refl _) (by simp) ?_; (case hd => rfl); (case hg => rfl); (case hr => first | (go_simp; done) | (go_simp; rfl)); (case hp => exact (Reps.one (show Kd.M (Kd.int .u8) _ _ _ ((t129) % 256) [.int .u8 ((t129) % 256)] from rfl) (Reps.one (show Kd.M (Kd.int .u8) _ _ _ ((t129 / 256) % 256) [.int .u8 ((t129 / 256) % 256)] from rfl) (Reps.one (show Kd.M (Kd.int .u8) _ _ _ ((t129 / 65536) % 256) [.int .u8 ((t129 / 65536) % 256)] from rfl) (Reps.one (show Kd.M (Kd.int .u8) _ _ _ ((t129 / 16777216) % 256) [.int .u8 ((t129 / 16777216) % 256)] from rfl) (Reps.none _ _)))))); intro v137 w35 ho36 hb hg_ hnew_; clear hg_ hnew_; (first | rw [← Ny136.out] at ho36 | (simp only [Int.reduceToNat] at ho36; rw [← Ny136.out] at ho36)); have n0_ := Aside0.mk (Kd.N_elder' (by (with_reducible repeat (first | apply Kd.N_alloc | apply Kd.N_drewN | apply Kd.N_drew)); exact HO128.out) (Kd.R_base ho36) hb); have n1_ := Aside0.mk (Kd.R_elder' (by (with_reducible repeat (first | apply Kd.R_alloc | apply Kd.R_drewN | apply Kd.R_drew)); exact HO135.out) (Kd.R_base ho36) hb); have n2_ := Aside0.mk (Kd.R_lower (Kd.R_new' ho36 (Kd.R_lt (by (with_reducible repeat (first | apply Kd.R_alloc | apply Kd.R_drewN | apply Kd.R_drew)); exact HO135.out))) (below_size (by repeat (first | (with_reducible first | exact HB.out | apply below_alloc | apply pw_below_drewN | apply below_drew1) | exact HB.out)))); have n3_ := Aside0.mk (below_step (by repeat (first | (with_reducible first | exact HB.out | apply below_alloc | apply pw_below_drewN | apply below_drew1) | exact HB.out)) hb); clear HO128; clear HO135; clear HB; have HO128 := n0_; have HO135 := n1_; have HO138 := n2_; have HB := n3_; clear n0_ n1_ n2_ n3_; clear hb ho36; obtain ⟨Ao38, co38, eo38⟩ := Kd.R_slice HO138.out; subst eo38) | ((with_reducible refine gate_builtin (b := .append) (xs := #[.tmp 22, .tmp 34]) rfl ?_); at_builtin; refine Kd.R_append_rows (Kd.int .u8) (w0 := w) w.heap.size rfl (.tmp 22) (.tmp 34) 23 5 (.int .u8 0) 1 rfl Try.underlying23 info5 rfl (by decide) (by omega) v134 y133 y136 _ _ _ (fun k_ => some k_ ≠ (.slice Ao38 y136.length co38 : Value).ownBlock) (fun _ => False) rfl rfl ?aO ?aR (fun _ _ h => h) (fun _ h => h.elim) ?aF ?aB ?aS ?aL ?_; (case aR => repeat (first | exact (Kd.R_reads' HO138.out).2.2 | (with_reducible refine Kd.C_alloc ?_ _) | (with_reducible refine Kd.C_drewN ?_ _) | (with_reducible refine Kd.C_drew ?_))); (case aB => exact (by repeat (first | (with_reducible first | exact HB.out | apply below_alloc | apply pw_below_drewN | apply below_drew1) | exact HB.out))); (case aF => exact (fun k_ hk => Kd.fresh' (Kd.R_lt (by (with_reducible repeat (first | apply Kd.R_alloc | apply Kd.R_drewN | apply Kd.R_drew)); exact HO138.out)) k_ hk)); (case aO => exact (by (with_reducible repeat (first | apply Kd.R_alloc | apply Kd.R_drewN | apply Kd.R_drew)); exact Kd.R_mono HO135.out (fun _ hk => hk.2))); (case aS => exact (below_size (by repeat (first | (with_reducible first | exact HB.out | apply below_alloc | apply pw_below_drewN | apply below_drew1) | exact HB.out)))); (case aL => have := LMc10.out; omega); intro v140 w37 ho hb hg hat; rw [← Ny139.out] at ho; have n0_ := Aside0.mk (Kd.N_afterv (ok := (fun k_ => some k_ ≠ (.slice Ao38 y136.length co38 : Value).ownBlock)) (by (with_reducible repeat (first | apply Kd.N_alloc | apply Kd.N_drewN | apply Kd.N_drew)); exact Kd.N_mono HO128.out (fun _ hk => ⟨hk.2, hk.1.2⟩)) hg hat); have n1_ := Aside0.mk (Kd.R_after (ok := (fun _ => True)) (by (with_reducible repeat (first | apply Kd.R_alloc | apply Kd.R_drewN | apply Kd.R_drew)); exact HO138.out) hg hat); have n2_ := Aside0.mk (hb); have n3_ := Aside0.mk (ho); clear HO128; clear HO138; clear HB; clear HO135; have HO128 := n0_; have HO138 := n1_; have HB := n2_; have HO141 := n3_; clear n0_ n1_ n2_ n3_; clear ho hb hg hat; obtain ⟨Ao39, co39, eo39⟩ := Kd.R_slice HO141.out; subst eo39) | ((with_reducible refine gate_callee (f := 15) rfl ?_); refine goesL_ (some 44) rfl rfl Try.func15 (by kernel_rfl) rfl #[.slice Ao39 y139.length co39, .int .i64 (Int.tmod (wrap64 (a1)) (wrap64 (8 * (y139.length : Int)))), .int .u32 a2] rfl (by (try simp only [List.map_toArray, List.map_cons, List.map_nil]); first | done | rfl | (simp only [List.length_drop, List.length_take]; rfl)) ?_; (with_reducible refine (halftonelaw03_Turned.calls k _ _ y139 (Int.tmod (wrap64 (a1)) (wrap64 (8 * (y139.length : Int)))) a2 t142 _ ?side1 ?side2 A12.out).mono ?_); (case side1 => repeat (first | exact (Kd.R_reads' HO141.out).2.2 | (with_reducible refine Kd.C_alloc ?_ _) | (with_reducible refine Kd.C_drewN ?_ _) | (with_reducible refine Kd.C_drew ?_))); (case side2 => exact (Kd.R_reads' HO141.out).2.1); rintro e w40 ⟨v143, rfl, ho0, hb⟩; refine ⟨_, rfl, ?_⟩; have n0_ := Aside0.mk (Kd.N_elder' (by (with_reducible repeat (first | apply Kd.N_alloc | apply Kd.N_drewN | apply Kd.N_drew)); exact HO128.out) (Kd.R_base ho0) hb); have n1_ := Aside0.mk (Kd.R_elder' (by (with_reducible repeat (first | apply Kd.R_alloc | apply Kd.R_drewN | apply Kd.R_drew)); exact HO138.out) (Kd.R_base ho0) hb); have n2_ := Aside0.mk (Kd.R_elder' (by (with_reducible repeat (first | apply Kd.R_alloc | apply Kd.R_drewN | apply Kd.R_drew)); exact HO141.out) (Kd.R_base ho0) hb); have n3_ := Aside0.mk (Kd.R_lower (Kd.R_new' (Kd.R_new' ho0 (Kd.R_lt (by (with_reducible repeat (first | apply Kd.R_alloc | apply Kd.R_drewN | apply Kd.R_drew)); exact HO138.out))) (Kd.R_lt (by (with_reducible repeat (first | apply Kd.R_alloc | apply Kd.R_drewN | apply Kd.R_drew)); exact HO141.out))) (below_size (by repeat (first | (with_reducible first | exact HB.out | apply below_alloc | apply pw_below_drewN | apply below_drew1) | exact HB.out)))); have n4_ := Aside0.mk (below_step (by repeat (first | (with_reducible first | exact HB.out | apply below_alloc | apply pw_below_drewN | apply below_drew1) | exact HB.out)) hb); clear HO128; clear HO138; clear HO141; clear HB; have HO128 := n0_; have HO138 := n1_; have HO141 := n2_; have HO144 := n3_; have HB := n4_; clear n0_ n1_ n2_ n3_ n4_; (try clear hb); (try clear hb2); (try clear hk); (try clear hi); (try clear ho0)))
                              have n0_ := Aside0.mk (Kd.N_drew HO128.out)
                              have n1_ := Aside0.mk (Kd.R_drew HO138.out)
                              have n2_ := Aside0.mk (Kd.R_drew HO141.out)
                              have n3_ := Aside0.mk (Kd.R_drew HO144.out)
                              have n4_ := Aside0.mk (below_drew1 HB.out)
                              clear HO128
                              clear HO138
                              clear HO141
                              clear HO144
                              clear HB
                              have HO128 := n0_
                              have HO138 := n1_
                              have HO141 := n2_
                              have HO144 := n3_
                              have HB := n4_
                              clear n0_ n1_ n2_ n3_ n4_
                              obtain ⟨Ao42, co42, eo42⟩ := Kd.R_slice HO144.out
                              (first | subst eo42 | (injection eo42 with f1_ f2_ f3_; have f4_ := f1_.symm; have f5_ := f3_.symm; clear f1_ f2_ f3_; subst f4_; subst f5_))
                              have p145 : 0 ≤ ((l0.length : Int) : Int) := of_decide_eq_true (by first | (with_reducible assumption) | assumption)
                              have q145 : (l0.length : Int) < (t142.length : Int) := of_decide_eq_true (by first | (with_reducible assumption) | assumption)
                              obtain ⟨ad145, e145, hx145_0⟩ := Kd.at_int (Kd.R_reads' HO144.out).2.2 (l0.length : Int) p145 q145
                              cases e145
                              (try simp only [Go.IntWalk.toNatUp] at hx145_0)
                              replace p145 := eq_true p145
                              replace q145 := eq_true q145
                              have p146 : 0 ≤ ((ji15) : Int) := of_decide_eq_true (by first | (with_reducible assumption) | assumption)
                              have q146 : (ji15) < (t142.length : Int) := of_decide_eq_true (by first | (with_reducible assumption) | assumption)
                              obtain ⟨ad146, e146, hx146_0⟩ := Kd.at_int (Kd.R_reads' HO144.out).2.2 (ji15) p146 q146
                              obtain rfl : ad145 = ad146 := (by injection e146)
                              replace p146 := eq_true p146
                              replace q146 := eq_true q146
                              have p147 : 0 ≤ ((ji18) : Int) := of_decide_eq_true (by first | (with_reducible assumption) | assumption)
                              have q147 : (ji18) < (t142.length : Int) := of_decide_eq_true (by first | (with_reducible assumption) | assumption)
                              obtain ⟨ad147, e147, hx147_0⟩ := Kd.at_int (Kd.R_reads' HO144.out).2.2 (ji18) p147 q147
                              obtain rfl : ad145 = ad147 := (by injection e147)
                              replace p147 := eq_true p147
                              replace q147 := eq_true q147
                              have p148 : 0 ≤ ((ji21) : Int) := of_decide_eq_true (by first | (with_reducible assumption) | assumption)
                              have q148 : (ji21) < (t142.length : Int) := of_decide_eq_true (by first | (with_reducible assumption) | assumption)
                              obtain ⟨ad148, e148, hx148_0⟩ := Kd.at_int (Kd.R_reads' HO144.out).2.2 (ji21) p148 q148
                              obtain rfl : ad145 = ad148 := (by injection e148)
                              replace p148 := eq_true p148
                              replace q148 := eq_true q148
                              refine start_ (n := 30) (S := fun w' => w'.cell? (ad145.add (l0.length)) = some (.int .u8 (rd t142 (l0.length : Int))) ∧ w'.cell? (ad145.add ((ji15)).toNat) = some (.int .u8 (rd t142 (ji15))) ∧ w'.cell? (ad145.add ((ji18)).toNat) = some (.int .u8 (rd t142 (ji18))) ∧ w'.cell? (ad145.add ((ji21)).toNat) = some (.int .u8 (rd t142 (ji21)))) (ds := []) #[false, false, false, false, false, false, false, false, false, false, false, false, false, false, false, false, false, false, false, false, false, false, false, false, false, false, false, false, false, false] (by kernel_rfl) rfl rfl ⟨hx145_0, hx146_0, hx147_0, hx148_0⟩ (fun hHeld => ?_); refine with_tabW halftonelaw03_CrcSealed.tab9 halftonelaw03_CrcSealed.bits9 (fun HT_ HW_ => ?_)
                              generalize w40.drew = w41 at HO128 HO138 HO141 HO144 HB hx145_0 hx146_0 hx147_0 hx148_0 hHeld ⊢
                              refine pure_ (i := 0) (N := some 47) (v := ?_) (a' := ?_) #[true, false, false, false, false, false, false, false, false, false, false, false, false, false, false, false, false, false, false, false, false, false, false, false, false, false, false, false, false, false] rfl rfl (any_of HT_.out (by kernel_rfl)) (fun _ _ _ h => h) (Or.inl ⟨by rfl, ?_⟩) ?_ ?_
                              rotate_left
                              · intro w'
                                go_simp
                                with_reducible rfl
                              rotate_left
                              · simp only [Act.put, List.setIfInBounds_toArray, List.set_cons_zero, List.set_cons_succ, i64_w, i32_w]
                                rfl
                              refine pure_ (i := 1) (N := some 48) (v := ?_) (a' := ?_) #[true, true, false, false, false, false, false, false, false, false, false, false, false, false, false, false, false, false, false, false, false, false, false, false, false, false, false, false, false, false] rfl rfl (any_of HT_.out (by kernel_rfl)) (fun _ _ _ h => h) (Or.inl ⟨by rfl, ?_⟩) ?_ ?_
                              rotate_left
                              · intro w'
                                go_simp
                                with_reducible rfl
                              rotate_left
                              · simp only [Act.put, List.setIfInBounds_toArray, List.set_cons_zero, List.set_cons_succ, i64_w, i32_w]
                                rfl
                              refine pure_ (i := 2) (N := some 49) (v := ?_) (a' := ?_) #[true, true, true, false, false, false, false, false, false, false, false, false, false, false, false, false, false, false, false, false, false, false, false, false, false, false, false, false, false, false] rfl rfl (any_of HT_.out (by kernel_rfl)) (fun _ _ _ h => h) (Or.inl ⟨by rfl, ?_⟩) ?_ ?_
                              rotate_left
                              · intro w'
                                go_simp
                                with_reducible rfl
                              rotate_left
                              · simp only [Act.put, List.setIfInBounds_toArray, List.set_cons_zero, List.set_cons_succ, i64_w, i32_w]
                                rfl
                              refine pure_ (i := 5) (N := some 52) (v := ?_) (a' := ?_) #[true, true, true, false, false, true, false, false, false, false, false, false, false, false, false, false, false, false, false, false, false, false, false, false, false, false, false, false, false, false] rfl rfl (any_of HT_.out (by kernel_rfl)) (fun _ _ _ h => h) (Or.inl ⟨by rfl, ?_⟩) ?_ ?_
                              rotate_left
                              · intro w'
                                go_simp
                                with_reducible rfl
                              rotate_left
                              · simp only [Act.put, List.setIfInBounds_toArray, List.set_cons_zero, List.set_cons_succ, i64_w, i32_w]
                                rfl
                              refine pure_ (i := 6) (N := some 53) (v := ?_) (a' := ?_) #[true, true, true, false, false, true, true, false, false, false, false, false, false, false, false, false, false, false, false, false, false, false, false, false, false, false, false, false, false, false] rfl rfl (any_of HT_.out (by kernel_rfl)) (fun _ _ _ h => h) (Or.inl ⟨by rfl, ?_⟩) ?_ ?_
                              rotate_left
                              · intro w'
                                go_simp
                                with_reducible rfl
                              rotate_left
                              · simp only [Act.put, List.setIfInBounds_toArray, List.set_cons_zero, List.set_cons_succ, i64_w, i32_w]
                                rfl
                              refine pure_ (i := 7) (N := some 54) (v := ?_) (a' := ?_) #[true, true, true, false, false, true, true, true, false, false, false, false, false, false, false, false, false, false, false, false, false, false, false, false, false, false, false, false, false, false] rfl rfl (any_of HT_.out (by kernel_rfl)) (fun _ _ _ h => h) (Or.inl ⟨by rfl, ?_⟩) ?_ ?_
                              rotate_left
                              · intro w'
                                go_simp
                                with_reducible rfl
                              rotate_left
                              · simp only [Act.put, List.setIfInBounds_toArray, List.set_cons_zero, List.set_cons_succ, i64_w, i32_w]
                                rfl
                              refine pure_ (i := 8) (N := some 55) (v := ?_) (a' := ?_) #[true, true, true, false, false, true, true, true, true, false, false, false, false, false, false, false, false, false, false, false, false, false, false, false, false, false, false, false, false, false] rfl rfl (any_of HT_.out (by kernel_rfl)) (fun _ _ _ h => h) (Or.inl ⟨by rfl, ?_⟩) ?_ ?_
                              rotate_left
                              · intro w'
                                go_simp
                                with_reducible rfl
                              rotate_left
                              · simp only [Act.put, List.setIfInBounds_toArray, List.set_cons_zero, List.set_cons_succ, i64_w, i32_w]
                                rfl
                              refine pure_ (i := 13) (N := some 60) (v := ?_) (a' := ?_) #[true, true, true, false, false, true, true, true, true, false, false, false, false, true, false, false, false, false, false, false, false, false, false, false, false, false, false, false, false, false] rfl rfl (any_of HT_.out (by kernel_rfl)) (fun _ _ _ h => h) (Or.inl ⟨by rfl, ?_⟩) ?_ ?_
                              rotate_left
                              · intro w'
                                go_simp
                                with_reducible rfl
                              rotate_left
                              · simp only [Act.put, List.setIfInBounds_toArray, List.set_cons_zero, List.set_cons_succ, i64_w, i32_w]
                                rfl
                              refine pure_ (i := 14) (N := some 61) (v := ?_) (a' := ?_) #[true, true, true, false, false, true, true, true, true, false, false, false, false, true, true, false, false, false, false, false, false, false, false, false, false, false, false, false, false, false] rfl rfl (any_of HT_.out (by kernel_rfl)) (fun _ _ _ h => h) (Or.inl ⟨by rfl, ?_⟩) ?_ ?_
                              rotate_left
                              · intro w'
                                go_simp
                                with_reducible rfl
                              rotate_left
                              · simp only [Act.put, List.setIfInBounds_toArray, List.set_cons_zero, List.set_cons_succ, i64_w, i32_w]
                                rfl
                              refine pure_ (i := 15) (N := some 62) (v := ?_) (a' := ?_) #[true, true, true, false, false, true, true, true, true, false, false, false, false, true, true, true, false, false, false, false, false, false, false, false, false, false, false, false, false, false] rfl rfl (any_of HT_.out (by kernel_rfl)) (fun _ _ _ h => h) (Or.inl ⟨by rfl, ?_⟩) ?_ ?_
                              rotate_left
                              · intro w'
                                go_simp
                                with_reducible rfl
                              rotate_left
                              · simp only [Act.put, List.setIfInBounds_toArray, List.set_cons_zero, List.set_cons_succ, i64_w, i32_w]
                                rfl
                              refine pure_ (i := 16) (N := some 63) (v := ?_) (a' := ?_) #[true, true, true, false, false, true, true, true, true, false, false, false, false, true, true, true, true, false, false, false, false, false, false, false, false, false, false, false, false, false] rfl rfl (any_of HT_.out (by kernel_rfl)) (fun _ _ _ h => h) (Or.inl ⟨by rfl, ?_⟩) ?_ ?_
                              rotate_left
                              · intro w'
                                go_simp
                                with_reducible rfl
                              rotate_left
                              · simp only [Act.put, List.setIfInBounds_toArray, List.set_cons_zero, List.set_cons_succ, i64_w, i32_w]
                                rfl
                              refine pure_ (i := 21) (N := some 68) (v := ?_) (a' := ?_) #[true, true, true, false, false, true, true, true, true, false, false, false, false, true, true, true, true, false, false, false, false, true, false, false, false, false, false, false, false, false] rfl rfl (any_of HT_.out (by kernel_rfl)) (fun _ _ _ h => h) (Or.inl ⟨by rfl, ?_⟩) ?_ ?_
                              rotate_left
                              · intro w'
                                go_simp
                                with_reducible rfl
                              rotate_left
                              · simp only [Act.put, List.setIfInBounds_toArray, List.set_cons_zero, List.set_cons_succ, i64_w, i32_w]
                                rfl
                              refine pure_ (i := 22) (N := some 69) (v := ?_) (a' := ?_) #[true, true, true, false, false, true, true, true, true, false, false, false, false, true, true, true, true, false, false, false, false, true, true, false, false, false, false, false, false, false] rfl rfl (any_of HT_.out (by kernel_rfl)) (fun _ _ _ h => h) (Or.inl ⟨by rfl, ?_⟩) ?_ ?_
                              rotate_left
                              · intro w'
                                go_simp
                                with_reducible rfl
                              rotate_left
                              · simp only [Act.put, List.setIfInBounds_toArray, List.set_cons_zero, List.set_cons_succ, i64_w, i32_w]
                                rfl
                              refine pure_ (i := 23) (N := some 70) (v := ?_) (a' := ?_) #[true, true, true, false, false, true, true, true, true, false, false, false, false, true, true, true, true, false, false, false, false, true, true, true, false, false, false, false, false, false] rfl rfl (any_of HT_.out (by kernel_rfl)) (fun _ _ _ h => h) (Or.inl ⟨by rfl, ?_⟩) ?_ ?_
                              rotate_left
                              · intro w'
                                go_simp
                                with_reducible rfl
                              rotate_left
                              · simp only [Act.put, List.setIfInBounds_toArray, List.set_cons_zero, List.set_cons_succ, i64_w, i32_w]
                                rfl
                              refine pure_ (i := 24) (N := some 71) (v := ?_) (a' := ?_) #[true, true, true, false, false, true, true, true, true, false, false, false, false, true, true, true, true, false, false, false, false, true, true, true, true, false, false, false, false, false] rfl rfl (any_of HT_.out (by kernel_rfl)) (fun _ _ _ h => h) (Or.inl ⟨by rfl, ?_⟩) ?_ ?_
                              rotate_left
                              · intro w'
                                go_simp
                                with_reducible rfl
                              rotate_left
                              · simp only [Act.put, List.setIfInBounds_toArray, List.set_cons_zero, List.set_cons_succ, i64_w, i32_w]
                                rfl
                              refine take_ (i := 3) (N := some 50) (v := ?_) (a' := ?_) #[true, true, true, true, false, true, true, true, true, false, false, false, false, true, true, true, true, false, false, false, false, true, true, true, true, false, false, false, false, false] rfl rfl (take_ofW HT_.out HW_.out (by kernel_rfl)) (fun _ _ _ h => h) (Or.inl ⟨by rfl, ?_⟩) hHeld ?_ ?_
                              rotate_left
                              · rintro w' ⟨s0, s1, s2, s3⟩
                                go_simp
                                with_reducible rfl
                              rotate_left
                              · simp only [Act.put, List.setIfInBounds_toArray, List.set_cons_zero, List.set_cons_succ, i64_w, i32_w]
                                rfl
                              refine pure_ (i := 4) (N := some 51) (v := ?_) (a' := ?_) #[true, true, true, true, true, true, true, true, true, false, false, false, false, true, true, true, true, false, false, false, false, true, true, true, true, false, false, false, false, false] rfl rfl (any_of HT_.out (by kernel_rfl)) (fun _ _ _ h => h) (Or.inl ⟨by rfl, ?_⟩) ?_ ?_
                              rotate_left
                              · intro w'
                                go_simp
                                with_reducible rfl
                              rotate_left
                              · simp only [Act.put, List.setIfInBounds_toArray, List.set_cons_zero, List.set_cons_succ, i64_w, i32_w]
                                rfl
                              refine take_ (i := 9) (N := some 56) (v := ?_) (a' := ?_) #[true, true, true, true, true, true, true, true, true, true, false, false, false, true, true, true, true, false, false, false, false, true, true, true, true, false, false, false, false, false] rfl rfl (take_ofW HT_.out HW_.out (by kernel_rfl)) (fun _ _ _ h => h) (Or.inl ⟨by rfl, ?_⟩) hHeld ?_ ?_
                              rotate_left
                              · rintro w' ⟨s0, s1, s2, s3⟩
                                go_simp
                                with_reducible rfl
                              rotate_left
                              · simp only [Act.put, List.setIfInBounds_toArray, List.set_cons_zero, List.set_cons_succ, i64_w, i32_w]
                                rfl
                              refine pure_ (i := 10) (N := some 57) (v := ?_) (a' := ?_) #[true, true, true, true, true, true, true, true, true, true, true, false, false, true, true, true, true, false, false, false, false, true, true, true, true, false, false, false, false, false] rfl rfl (any_of HT_.out (by kernel_rfl)) (fun _ _ _ h => h) (Or.inl ⟨by rfl, ?_⟩) ?_ ?_
                              rotate_left
                              · intro w'
                                go_simp
                                with_reducible rfl
                              rotate_left
                              · simp only [Act.put, List.setIfInBounds_toArray, List.set_cons_zero, List.set_cons_succ, i64_w, i32_w]
                                rfl
                              refine pure_ (i := 11) (N := some 58) (v := ?_) (a' := ?_) #[true, true, true, true, true, true, true, true, true, true, true, true, false, true, true, true, true, false, false, false, false, true, true, true, true, false, false, false, false, false] rfl rfl (any_of HT_.out (by kernel_rfl)) (fun _ _ _ h => h) (Or.inl ⟨by rfl, ?_⟩) ?_ ?_
                              rotate_left
                              · intro w'
                                go_simp
                                with_reducible rfl
                              rotate_left
                              · simp only [Act.put, List.setIfInBounds_toArray, List.set_cons_zero, List.set_cons_succ, i64_w, i32_w]
                                rfl
                              refine pure_ (i := 12) (N := some 59) (v := ?_) (a' := ?_) #[true, true, true, true, true, true, true, true, true, true, true, true, true, true, true, true, true, false, false, false, false, true, true, true, true, false, false, false, false, false] rfl rfl (any_of HT_.out (by kernel_rfl)) (fun _ _ _ h => h) (Or.inl ⟨by rfl, ?_⟩) ?_ ?_
                              rotate_left
                              · intro w'
                                go_simp
                                with_reducible rfl
                              rotate_left
                              · simp only [Act.put, List.setIfInBounds_toArray, List.set_cons_zero, List.set_cons_succ, i64_w, i32_w]
                                rfl
                              refine take_ (i := 17) (N := some 64) (v := ?_) (a' := ?_) #[true, true, true, true, true, true, true, true, true, true, true, true, true, true, true, true, true, true, false, false, false, true, true, true, true, false, false, false, false, false] rfl rfl (take_ofW HT_.out HW_.out (by kernel_rfl)) (fun _ _ _ h => h) (Or.inl ⟨by rfl, ?_⟩) hHeld ?_ ?_
                              rotate_left
                              · rintro w' ⟨s0, s1, s2, s3⟩
                                go_simp
                                with_reducible rfl
                              rotate_left
                              · simp only [Act.put, List.setIfInBounds_toArray, List.set_cons_zero, List.set_cons_succ, i64_w, i32_w]
                                rfl
                              refine pure_ (i := 18) (N := some 65) (v := ?_) (a' := ?_) #[true, true, true, true, true, true, true, true, true, true, true, true, true, true, true, true, true, true, true, false, false, true, true, true, true, false, false, false, false, false] rfl rfl (any_of HT_.out (by kernel_rfl)) (fun _ _ _ h => h) (Or.inl ⟨by rfl, ?_⟩) ?_ ?_
                              rotate_left
                              · intro w'
                                go_simp
                                with_reducible rfl
                              rotate_left
                              · simp only [Act.put, List.setIfInBounds_toArray, List.set_cons_zero, List.set_cons_succ, i64_w, i32_w]
                                rfl
                              refine pure_ (i := 19) (N := some 66) (v := ?_) (a' := ?_) #[true, true, true, true, true, true, true, true, true, true, true, true, true, true, true, true, true, true, true, true, false, true, true, true, true, false, false, false, false, false] rfl rfl (any_of HT_.out (by kernel_rfl)) (fun _ _ _ h => h) (Or.inl ⟨by rfl, ?_⟩) ?_ ?_
                              rotate_left
                              · intro w'
                                go_simp
                                with_reducible rfl
                              rotate_left
                              · simp only [Act.put, List.setIfInBounds_toArray, List.set_cons_zero, List.set_cons_succ, i64_w, i32_w]
                                rfl
                              refine pure_ (i := 20) (N := some 67) (v := ?_) (a' := ?_) #[true, true, true, true, true, true, true, true, true, true, true, true, true, true, true, true, true, true, true, true, true, true, true, true, true, false, false, false, false, false] rfl rfl (any_of HT_.out (by kernel_rfl)) (fun _ _ _ h => h) (Or.inl ⟨by rfl, ?_⟩) ?_ ?_
                              rotate_left
                              · intro w'
                                go_simp
                                with_reducible rfl
                              rotate_left
                              · simp only [Act.put, List.setIfInBounds_toArray, List.set_cons_zero, List.set_cons_succ, i64_w, i32_w]
                                rfl
                              refine take_ (i := 25) (N := some 72) (v := ?_) (a' := ?_) #[true, true, true, true, true, true, true, true, true, true, true, true, true, true, true, true, true, true, true, true, true, true, true, true, true, true, false, false, false, false] rfl rfl (take_ofW HT_.out HW_.out (by kernel_rfl)) (fun _ _ _ h => h) (Or.inl ⟨by rfl, ?_⟩) hHeld ?_ ?_
                              rotate_left
                              · rintro w' ⟨s0, s1, s2, s3⟩
                                go_simp
                                with_reducible rfl
                              rotate_left
                              · simp only [Act.put, List.setIfInBounds_toArray, List.set_cons_zero, List.set_cons_succ, i64_w, i32_w]
                                rfl
                              refine pure_ (i := 26) (N := some 73) (v := ?_) (a' := ?_) #[true, true, true, true, true, true, true, true, true, true, true, true, true, true, true, true, true, true, true, true, true, true, true, true, true, true, true, false, false, false] rfl rfl (any_of HT_.out (by kernel_rfl)) (fun _ _ _ h => h) (Or.inl ⟨by rfl, ?_⟩) ?_ ?_
                              rotate_left
                              · intro w'
                                go_simp
                                with_reducible rfl
                              rotate_left
                              · simp only [Act.put, List.setIfInBounds_toArray, List.set_cons_zero, List.set_cons_succ, i64_w, i32_w]
                                rfl
                              refine pure_ (i := 27) (N := some 74) (v := ?_) (a' := ?_) #[true, true, true, true, true, true, true, true, true, true, true, true, true, true, true, true, true, true, true, true, true, true, true, true, true, true, true, true, false, false] rfl rfl (any_of HT_.out (by kernel_rfl)) (fun _ _ _ h => h) (Or.inl ⟨by rfl, ?_⟩) ?_ ?_
                              rotate_left
                              · intro w'
                                go_simp
                                with_reducible rfl
                              rotate_left
                              · simp only [Act.put, List.setIfInBounds_toArray, List.set_cons_zero, List.set_cons_succ, i64_w, i32_w]
                                rfl
                              refine pure_ (i := 28) (N := some 75) (v := ?_) (a' := ?_) #[true, true, true, true, true, true, true, true, true, true, true, true, true, true, true, true, true, true, true, true, true, true, true, true, true, true, true, true, true, false] rfl rfl (any_of HT_.out (by kernel_rfl)) (fun _ _ _ h => h) (Or.inl ⟨by rfl, ?_⟩) ?_ ?_
                              rotate_left
                              · intro w'
                                go_simp
                                with_reducible rfl
                              rotate_left
                              · simp only [Act.put, List.setIfInBounds_toArray, List.set_cons_zero, List.set_cons_succ, i64_w, i32_w]
                                rfl
                              refine pure_ (i := 29) (N := some 11) (v := ?_) (a' := ?_) #[true, true, true, true, true, true, true, true, true, true, true, true, true, true, true, true, true, true, true, true, true, true, true, true, true, true, true, true, true, true] rfl rfl (any_of HT_.out (by kernel_rfl)) (fun _ _ _ h => h) (Or.inl ⟨by rfl, ?_⟩) ?_ ?_
                              rotate_left
                              · intro w'
                                go_simp
                                with_reducible rfl
                              rotate_left
                              · simp only [Act.put, List.setIfInBounds_toArray, List.set_cons_zero, List.set_cons_succ, i64_w, i32_w]
                                rfl
                              refine done_ (done_of HT_.out (by kernel_rfl)) ?_
                              try go_wp2
                              have n0_ := Aside0.mk (Kd.N_drew HO128.out)
                              have n1_ := Aside0.mk (Kd.R_drew HO138.out)
                              have n2_ := Aside0.mk (Kd.R_drew HO141.out)
                              have n3_ := Aside0.mk (Kd.R_drew HO144.out)
                              have n4_ := Aside0.mk (below_drew1 HB.out)
                              clear HO128
                              clear HO138
                              clear HO141
                              clear HO144
                              clear HB
                              have HO128 := n0_
                              have HO138 := n1_
                              have HO141 := n2_
                              have HO144 := n3_
                              have HB := n4_
                              clear n0_ n1_ n2_ n3_ n4_
                              have q44 : ((l0.length : Int) : Int) ≤ ((t142.length : Int) : Int) := of_decide_eq_true (by first | (with_reducible assumption) | assumption)
                              obtain ⟨i044, hi044, _, hsz44, _⟩ := info_parts info5
                              have hroom44 : t142.length ≤ co42 := (Kd.R_reads' HO144.out).2.1
                              have hC44 : Kd.F (Kd.int .u8) _ _ (some ad145) t142.length t142 := (Kd.V_at (base := w.heap.size) (Kd.R_V (Kd.R_apart' (HO144.out) (Kd.N_typed HO128.out) (by decide)))).2.2
                              have hcut44 := cut_to (P := Try.prog) 23 5 .i64 Try.underlying23 hi044 (some ad145) t142.length co42 (l0.length : Int) (of_decide_eq_true (by first | (with_reducible assumption) | assumption)) q44 hroom44
                              have hr44 := Kd.F_take (m := ((l0.length : Int) : Int).toNat) hC44 (by omega)
                              have hy44 : y150.length = ((l0.length : Int) : Int).toNat := (by rw [Ny150.out, List.length_take]; omega)
                              rw [← Ny150.out] at hr44
                              rw [← hy44] at hcut44
                              have HO154 := Aside0.mk (show Kd.V (Kd.int .u8) 5 _ w.heap.size _ (.slice (some ad145) y150.length co42) y150 from Kd.V_mk (by omega) hr44)
                              have HC154 := Aside0.mk (show y150.length ≤ co42 from by omega)
                              clear hr44 hC44 hroom44 hi044 hsz44
                              have KY44 := Aside0.mk hy44
                              clear hy44
                              replace q44 := eq_true q44
                              refine start_ (n := 12) (S := fun w' => True) (ds := []) #[false, false, false, false, false, false, false, false, false, false, false, false] (by kernel_rfl) rfl rfl trivial (fun hHeld => ?_); refine with_tabW halftonelaw03_CrcSealed.tab10 halftonelaw03_CrcSealed.bits10 (fun HT_ HW_ => ?_)
                              generalize w41.drew = w43 at HO128 HO138 HO141 HO144 HB HO154 hHeld ⊢
                              refine pure_ (i := 0) (N := some 76) (v := ?_) (a' := ?_) #[true, false, false, false, false, false, false, false, false, false, false, false] rfl rfl (any_of HT_.out (by kernel_rfl)) (fun _ _ _ h => h) (Or.inl ⟨by rfl, ?_⟩) ?_ ?_
                              rotate_left
                              · intro w'
                                go_simp
                                with_reducible rfl
                              rotate_left
                              · simp only [Act.put, List.setIfInBounds_toArray, List.set_cons_zero, List.set_cons_succ, i64_w, i32_w]
                                rfl
                              refine pure_ (i := 1) (N := some 77) (v := ?_) (a' := ?_) #[true, true, false, false, false, false, false, false, false, false, false, false] rfl rfl (any_of HT_.out (by kernel_rfl)) (fun _ _ _ h => h) (Or.inl ⟨by rfl, ?_⟩) ?_ ?_
                              rotate_left
                              · intro w'
                                go_simp
                                with_reducible rfl
                              rotate_left
                              · simp only [Act.put, List.setIfInBounds_toArray, List.set_cons_zero, List.set_cons_succ, i64_w, i32_w]
                                rfl
                              refine pure_ (i := 3) (N := some 79) (v := ?_) (a' := ?_) #[true, true, false, true, false, false, false, false, false, false, false, false] rfl rfl (any_of HT_.out (by kernel_rfl)) (fun _ _ _ h => h) (Or.inl ⟨by rfl, ?_⟩) ?_ ?_
                              rotate_left
                              · intro w'
                                go_simp
                                with_reducible rfl
                              rotate_left
                              · simp only [Act.put, List.setIfInBounds_toArray, List.set_cons_zero, List.set_cons_succ, i64_w, i32_w]
                                rfl
                              refine pure_ (i := 4) (N := some 80) (v := ?_) (a' := ?_) #[true, true, false, true, true, false, false, false, false, false, false, false] rfl rfl (any_of HT_.out (by kernel_rfl)) (fun _ _ _ h => h) (Or.inl ⟨by rfl, ?_⟩) ?_ ?_
                              rotate_left
                              · intro w'
                                go_simp
                                with_reducible rfl
                              rotate_left
                              · simp only [Act.put, List.setIfInBounds_toArray, List.set_cons_zero, List.set_cons_succ, i64_w, i32_w]
                                rfl
                              refine pure_ (i := 5) (N := some 81) (v := ?_) (a' := ?_) #[true, true, false, true, true, true, false, false, false, false, false, false] rfl rfl (any_of HT_.out (by kernel_rfl)) (fun _ _ _ h => h) (Or.inl ⟨by rfl, ?_⟩) ?_ ?_
                              rotate_left
                              · intro w'
                                go_simp
                                with_reducible rfl
                              rotate_left
                              · simp only [Act.put, List.setIfInBounds_toArray, List.set_cons_zero, List.set_cons_succ, i64_w, i32_w]
                                rfl
                              refine pure_ (i := 8) (N := some 84) (v := ?_) (a' := ?_) #[true, true, false, true, true, true, false, false, true, false, false, false] rfl rfl (any_of HT_.out (by kernel_rfl)) (fun _ _ _ h => h) (Or.inl ⟨by rfl, ?_⟩) ?_ ?_
                              rotate_left
                              · intro w'
                                go_simp
                                with_reducible rfl
                              rotate_left
                              · simp only [Act.put, List.setIfInBounds_toArray, List.set_cons_zero, List.set_cons_succ, i64_w, i32_w]
                                rfl
                              refine join_ (σ := Value) 4 #[true, true, true, true, true, true, true, false, true, false, false, false] (fun s_ => [(78, .bool t149), (82, s_)]) (fun s_ w' => (Kd.N (Kd.slice 5 (Kd.int .u8)) 23 w' w.heap.size (fun k_ => some k_ ≠ (.slice Ao38 y136.length co38 : Value).ownBlock ∧ some k_ ≠ (.slice Ao39 y139.length co39 : Value).ownBlock ∧ some k_ ≠ (.slice (some ad145) t142.length co42 : Value).ownBlock ∧ some k_ ≠ (s_ : Value).ownBlock) (.slice Ao31 y126.length co31) y126) ∧ (Kd.R (Kd.int .u8) 5 w' w.heap.size (fun k_ => some k_ ≠ (.slice Ao39 y139.length co39 : Value).ownBlock ∧ some k_ ≠ (.slice (some ad145) t142.length co42 : Value).ownBlock) (.slice Ao38 y136.length co38) y136) ∧ (Kd.R (Kd.int .u8) 5 w' w.heap.size (fun k_ => some k_ ≠ (.slice Ao38 y136.length co38 : Value).ownBlock ∧ some k_ ≠ (.slice (some ad145) t142.length co42 : Value).ownBlock) (.slice Ao39 y139.length co39) y139) ∧ (Kd.R (Kd.int .u8) 5 w' w.heap.size (fun k_ => some k_ ≠ (.slice Ao38 y136.length co38 : Value).ownBlock ∧ some k_ ≠ (.slice Ao39 y139.length co39 : Value).ownBlock) (.slice (some ad145) t142.length co42) t142) ∧ (Kd.V (Kd.int .u8) 5 w' w.heap.size (fun k_ => some k_ ≠ (.slice Ao31 y126.length co31 : Value).ownBlock ∧ some k_ ≠ (.slice Ao38 y136.length co38 : Value).ownBlock ∧ some k_ ≠ (.slice Ao39 y139.length co39 : Value).ownBlock ∧ some k_ ≠ (s_ : Value).ownBlock) (.slice (some ad145) y150.length co42) y150) ∧ (Kd.N (Kd.slice 5 (Kd.int .u8)) 23 w' w.heap.size (fun k_ => some k_ ≠ (.slice Ao31 y126.length co31 : Value).ownBlock ∧ some k_ ≠ (.slice Ao38 y136.length co38 : Value).ownBlock ∧ some k_ ≠ (.slice Ao39 y139.length co39 : Value).ownBlock) s_ y155) ∧ (Below w.heap.size w w')) ?_ ?_
                              rotate_left
                              · intro hCont
                                refine two_ (i := 2) (j := 6) (Ni := some 78) (Nj := some 82) #[true, true, true, true, true, true, false, false, true, false, false, false] #[true, true, false, true, true, true, true, false, true, false, false, false] rfl rfl rfl rfl (two_of HT_.out (by kernel_rfl)) (by decide) (by decide) (fun K hK => ?_) (fun K hK => ?_)
                                · skip
                                  refine goes_ Try.func13 (by kernel_rfl) rfl #[.slice Ao39 y139.length co39, .slice (some ad145) t142.length co42] (by rfl) rfl rfl (by (try simp only [List.map_toArray, List.map_cons, List.map_nil]); first | done | rfl | (simp only [List.length_drop, List.length_take]; rfl)) ?_
                                  with_reducible refine (halftoneref01_Same.calls _ _ y139 _ _ t142 t149 _ ?side1 ?side2 ?side3 ?side4 A24.out).mono ?_
                                  (case side1 => repeat (first | exact (Kd.R_reads' HO141.out).2.2 | (with_reducible refine Kd.C_alloc ?_ _) | (with_reducible refine Kd.C_drewN ?_ _) | (with_reducible refine Kd.C_drew ?_)))
                                  (case side2 => exact (Kd.R_reads' HO141.out).2.1)
                                  (case side3 => repeat (first | exact (Kd.R_reads' HO144.out).2.2 | (with_reducible refine Kd.C_alloc ?_ _) | (with_reducible refine Kd.C_drewN ?_ _) | (with_reducible refine Kd.C_drew ?_)))
                                  (case side4 => exact (Kd.R_reads' HO144.out).2.1)
                                  rintro e w' ⟨rfl, ⟨nd, rfl⟩⟩
                                  refine ⟨_, rfl, ?_⟩
                                  refine hK.out _ _ trivial (fun hHeld => ?_)
                                  clear hK K
                                  refine norm_ (a' := ?_) ?_ ?_
                                  rotate_left
                                  · show Act.put _ (some 78) _ = _
                                    simp only [Act.put, List.setIfInBounds_toArray, List.set_cons_zero, List.set_cons_succ, i64_w, i32_w]
                                    rfl
                                  refine one_ (i := 6) (N := some 82) #[true, true, true, true, true, true, true, false, true, false, false, false] rfl rfl (one_of HT_.out (by kernel_rfl)) (by decide) (fun K hK => ?_)
                                  refine Kd.N_lit_step (Kd.slice 5 (Kd.int .u8)) _ 23 ?hg (N' := 82) ?hd (xs := ([y150] : List (List Int))) (inner := [.slice (some ad145) y150.length co42]) (ok := (fun k_ => some k_ ≠ (.slice Ao31 y126.length co31 : Value).ownBlock ∧ some k_ ≠ (.slice Ao38 y136.length co38 : Value).ownBlock ∧ some k_ ≠ (.slice Ao39 y139.length co39 : Value).ownBlock)) (okp := (fun k_ => some k_ ≠ (.slice Ao31 y126.length co31 : Value).ownBlock ∧ some k_ ≠ (.slice Ao38 y136.length co38 : Value).ownBlock ∧ some k_ ≠ (.slice Ao39 y139.length co39 : Value).ownBlock)) ?hr ?hp (fun _ hk => hk) ((show ∀ k_, w43.heap.size ≤ k_ → (fun k_ => some k_ ≠ (.slice Ao31 y126.length co31 : Value).ownBlock ∧ some k_ ≠ (.slice Ao38 y136.length co38 : Value).ownBlock ∧ some k_ ≠ (.slice Ao39 y139.length co39 : Value).ownBlock) k_ from fun k_ hk => ⟨Kd.fresh' (Kd.N_lt (by (with_reducible repeat (first | apply Kd.N_alloc | apply Kd.N_drewN | apply Kd.N_drew)); exact HO128.out)) k_ hk, Kd.fresh' (Kd.R_lt (by (with_reducible repeat (first | apply Kd.R_alloc | apply Kd.R_drewN | apply Kd.R_drew)); exact HO138.out)) k_ hk, Kd.fresh' (Kd.R_lt (by (with_reducible repeat (first | apply Kd.R_alloc | apply Kd.R_drewN | apply Kd.R_drew)); exact HO141.out)) k_ hk⟩) _ (Nat.le_refl _)) (Below.refl _ _) (Nat.le_refl _) (by simp) ?_; (case hd => rfl); (case hg => rfl); (case hr => first | (go_simp; done) | (go_simp; rfl)); (case hp => exact (Reps.one (show Kd.FK (Kd.slice 5 (Kd.int .u8)) _ _ y150 [.slice (some ad145) y150.length co42] from (Kd.FK_slice_mk (Kd.V_reads' (e := 5) (base := w.heap.size) (Kd.V_mono (e := 5) (base := w.heap.size) (ok' := (fun k_ => some k_ ≠ (.slice Ao31 y126.length co31 : Value).ownBlock ∧ some k_ ≠ (.slice Ao38 y136.length co38 : Value).ownBlock ∧ some k_ ≠ (.slice Ao39 y139.length co39 : Value).ownBlock)) (HO154.out) (fun k_ hk => ⟨hk.2, ⟨hk.1.1.2, hk.1.2⟩⟩))).2.1 (Kd.V_F (e := 5) (base := w.heap.size) (Kd.V_mono (e := 5) (base := w.heap.size) (ok' := (fun k_ => some k_ ≠ (.slice Ao31 y126.length co31 : Value).ownBlock ∧ some k_ ≠ (.slice Ao38 y136.length co38 : Value).ownBlock ∧ some k_ ≠ (.slice Ao39 y139.length co39 : Value).ownBlock)) (HO154.out) (fun k_ hk => ⟨hk.2, ⟨hk.1.1.2, hk.1.2⟩⟩))))) (Reps.none _ _)))
                                  intro v156 w45 ho46 hb hg_ hnew_
                                  clear hg_ hnew_
                                  (first | rw [← Ny155.out] at ho46 | (simp only [Int.reduceToNat] at ho46; rw [← Ny155.out] at ho46))
                                  have n0_ := Aside0.mk (Kd.N_elder' (by (with_reducible repeat (first | apply Kd.N_alloc | apply Kd.N_drewN | apply Kd.N_drew)); exact HO128.out) (Kd.N_base ho46) hb)
                                  have n1_ := Aside0.mk (Kd.R_below (by (with_reducible repeat (first | apply Kd.R_alloc | apply Kd.R_drewN | apply Kd.R_drew)); exact HO138.out) hb)
                                  have n2_ := Aside0.mk (Kd.R_below (by (with_reducible repeat (first | apply Kd.R_alloc | apply Kd.R_drewN | apply Kd.R_drew)); exact HO141.out) hb)
                                  have n3_ := Aside0.mk (Kd.R_below (by (with_reducible repeat (first | apply Kd.R_alloc | apply Kd.R_drewN | apply Kd.R_drew)); exact HO144.out) hb)
                                  have n4_ := Aside0.mk (Kd.V_elder' (by (with_reducible repeat (first | apply Kd.V_alloc | apply Kd.V_drewN | apply Kd.V_drew)); exact HO154.out) (Kd.N_base ho46) hb)
                                  have n5_ := Aside0.mk (Kd.N_lower ho46 (below_size (by repeat (first | (with_reducible first | exact HB.out | apply below_alloc | apply pw_below_drewN | apply below_drew1) | exact HB.out))))
                                  have n6_ := Aside0.mk (below_step (by repeat (first | (with_reducible first | exact HB.out | apply below_alloc | apply pw_below_drewN | apply below_drew1) | exact HB.out)) hb)
                                  clear HO128
                                  clear HO138
                                  clear HO141
                                  clear HO144
                                  clear HO154
                                  clear HB
                                  have HO128 := n0_
                                  have HO138 := n1_
                                  have HO141 := n2_
                                  have HO144 := n3_
                                  have HO154 := n4_
                                  have HO157 := n5_
                                  have HB := n6_
                                  clear n0_ n1_ n2_ n3_ n4_ n5_ n6_
                                  clear hb ho46
                                  refine hK.out _ _ trivial (fun hHeld => ?_)
                                  clear hK K
                                  refine norm_ (a' := ?_) ?_ ?_
                                  rotate_left
                                  · show Act.put _ (some 82) _ = _
                                    simp only [Act.put, List.setIfInBounds_toArray, List.set_cons_zero, List.set_cons_succ, i64_w, i32_w]
                                    rfl
                                  exact norm_ (by simp only [putAll, Act.put, List.setIfInBounds_toArray, List.set_cons_zero, List.set_cons_succ]) (hCont (v156) _ ⟨(by (with_reducible repeat (first | apply Kd.N_alloc | apply Kd.N_drewN | apply Kd.N_drew)); exact Kd.N_mono HO128.out (fun _ hk => ⟨hk.1.1.1, ⟨hk.1.1.2, ⟨hk.1.2, hk.2⟩⟩⟩)), (by (with_reducible repeat (first | apply Kd.R_alloc | apply Kd.R_drewN | apply Kd.R_drew)); exact Kd.R_mono HO138.out (fun _ hk => ⟨hk.1.2, hk.2⟩)), (by (with_reducible repeat (first | apply Kd.R_alloc | apply Kd.R_drewN | apply Kd.R_drew)); exact HO141.out), (by (with_reducible repeat (first | apply Kd.R_alloc | apply Kd.R_drewN | apply Kd.R_drew)); exact Kd.R_mono HO144.out (fun _ hk => ⟨hk.1.2, hk.2⟩)), (by (with_reducible repeat (first | apply Kd.V_alloc | apply Kd.V_drewN | apply Kd.V_drew)); exact Kd.V_mono HO154.out (fun _ hk => ⟨hk.1.2, ⟨hk.1.1.1.2, ⟨hk.1.1.2, hk.2⟩⟩⟩)), (by (with_reducible repeat (first | apply Kd.N_alloc | apply Kd.N_drewN | apply Kd.N_drew)); exact HO157.out), (by repeat (first | (with_reducible first | exact HB.out | apply below_alloc | apply pw_below_drewN | apply below_drew1) | exact HB.out))⟩)
                                · skip
                                  refine Kd.N_lit_step (Kd.slice 5 (Kd.int .u8)) _ 23 ?hg (N' := 82) ?hd (xs := ([y150] : List (List Int))) (inner := [.slice (some ad145) y150.length co42]) (ok := (fun k_ => some k_ ≠ (.slice Ao31 y126.length co31 : Value).ownBlock ∧ some k_ ≠ (.slice Ao38 y136.length co38 : Value).ownBlock ∧ some k_ ≠ (.slice Ao39 y139.length co39 : Value).ownBlock)) (okp := (fun k_ => some k_ ≠ (.slice Ao31 y126.length co31 : Value).ownBlock ∧ some k_ ≠ (.slice Ao38 y136.length co38 : Value).ownBlock ∧ some k_ ≠ (.slice Ao39 y139.length co39 : Value).ownBlock)) ?hr ?hp (fun _ hk => hk) ((show ∀ k_, w43.heap.size ≤ k_ → (fun k_ => some k_ ≠ (.slice Ao31 y126.length co31 : Value).ownBlock ∧ some k_ ≠ (.slice Ao38 y136.length co38 : Value).ownBlock ∧ some k_ ≠ (.slice Ao39 y139.length co39 : Value).ownBlock) k_ from fun k_ hk => ⟨Kd.fresh' (Kd.N_lt (by (with_reducible repeat (first | apply Kd.N_alloc | apply Kd.N_drewN | apply Kd.N_drew)); exact HO128.out)) k_ hk, Kd.fresh' (Kd.R_lt (by (with_reducible repeat (first | apply Kd.R_alloc | apply Kd.R_drewN | apply Kd.R_drew)); exact HO138.out)) k_ hk, Kd.fresh' (Kd.R_lt (by (with_reducible repeat (first | apply Kd.R_alloc | apply Kd.R_drewN | apply Kd.R_drew)); exact HO141.out)) k_ hk⟩) _ (Nat.le_refl _)) (Below.refl _ _) (Nat.le_refl _) (by simp) ?_; (case hd => rfl); (case hg => rfl); (case hr => first | (go_simp; done) | (go_simp; rfl)); (case hp => exact (Reps.one (show Kd.FK (Kd.slice 5 (Kd.int .u8)) _ _ y150 [.slice (some ad145) y150.length co42] from (Kd.FK_slice_mk (Kd.V_reads' (e := 5) (base := w.heap.size) (Kd.V_mono (e := 5) (base := w.heap.size) (ok' := (fun k_ => some k_ ≠ (.slice Ao31 y126.length co31 : Value).ownBlock ∧ some k_ ≠ (.slice Ao38 y136.length co38 : Value).ownBlock ∧ some k_ ≠ (.slice Ao39 y139.length co39 : Value).ownBlock)) (HO154.out) (fun k_ hk => ⟨hk.2, ⟨hk.1.1.2, hk.1.2⟩⟩))).2.1 (Kd.V_F (e := 5) (base := w.heap.size) (Kd.V_mono (e := 5) (base := w.heap.size) (ok' := (fun k_ => some k_ ≠ (.slice Ao31 y126.length co31 : Value).ownBlock ∧ some k_ ≠ (.slice Ao38 y136.length co38 : Value).ownBlock ∧ some k_ ≠ (.slice Ao39 y139.length co39 : Value).ownBlock)) (HO154.out) (fun k_ hk => ⟨hk.2, ⟨hk.1.1.2, hk.1.2⟩⟩))))) (Reps.none _ _)))
                                  intro v156 w45 ho46 hb hg_ hnew_
                                  clear hg_ hnew_
                                  (first | rw [← Ny155.out] at ho46 | (simp only [Int.reduceToNat] at ho46; rw [← Ny155.out] at ho46))
                                  have n0_ := Aside0.mk (Kd.N_elder' (by (with_reducible repeat (first | apply Kd.N_alloc | apply Kd.N_drewN | apply Kd.N_drew)); exact HO128.out) (Kd.N_base ho46) hb)
                                  have n1_ := Aside0.mk (Kd.R_below (by (with_reducible repeat (first | apply Kd.R_alloc | apply Kd.R_drewN | apply Kd.R_drew)); exact HO138.out) hb)
                                  have n2_ := Aside0.mk (Kd.R_below (by (with_reducible repeat (first | apply Kd.R_alloc | apply Kd.R_drewN | apply Kd.R_drew)); exact HO141.out) hb)
                                  have n3_ := Aside0.mk (Kd.R_below (by (with_reducible repeat (first | apply Kd.R_alloc | apply Kd.R_drewN | apply Kd.R_drew)); exact HO144.out) hb)
                                  have n4_ := Aside0.mk (Kd.V_elder' (by (with_reducible repeat (first | apply Kd.V_alloc | apply Kd.V_drewN | apply Kd.V_drew)); exact HO154.out) (Kd.N_base ho46) hb)
                                  have n5_ := Aside0.mk (Kd.N_lower ho46 (below_size (by repeat (first | (with_reducible first | exact HB.out | apply below_alloc | apply pw_below_drewN | apply below_drew1) | exact HB.out))))
                                  have n6_ := Aside0.mk (below_step (by repeat (first | (with_reducible first | exact HB.out | apply below_alloc | apply pw_below_drewN | apply below_drew1) | exact HB.out)) hb)
                                  clear HO128
                                  clear HO138
                                  clear HO141
                                  clear HO144
                                  clear HO154
                                  clear HB
                                  have HO128 := n0_
                                  have HO138 := n1_
                                  have HO141 := n2_
                                  have HO144 := n3_
                                  have HO154 := n4_
                                  have HO157 := n5_
                                  have HB := n6_
                                  clear n0_ n1_ n2_ n3_ n4_ n5_ n6_
                                  clear hb ho46
                                  refine hK.out _ _ trivial (fun hHeld => ?_)
                                  clear hK K
                                  refine norm_ (a' := ?_) ?_ ?_
                                  rotate_left
                                  · show Act.put _ (some 82) _ = _
                                    simp only [Act.put, List.setIfInBounds_toArray, List.set_cons_zero, List.set_cons_succ, i64_w, i32_w]
                                    rfl
                                  refine one_ (i := 2) (N := some 78) #[true, true, true, true, true, true, true, false, true, false, false, false] rfl rfl (one_of HT_.out (by kernel_rfl)) (by decide) (fun K hK => ?_)
                                  refine goes_ Try.func13 (by kernel_rfl) rfl #[.slice Ao39 y139.length co39, .slice (some ad145) t142.length co42] (by rfl) rfl rfl (by (try simp only [List.map_toArray, List.map_cons, List.map_nil]); first | done | rfl | (simp only [List.length_drop, List.length_take]; rfl)) ?_
                                  with_reducible refine (halftoneref01_Same.calls _ _ y139 _ _ t142 t149 _ ?side1 ?side2 ?side3 ?side4 A24.out).mono ?_
                                  (case side1 => repeat (first | exact (Kd.R_reads' HO141.out).2.2 | (with_reducible refine Kd.C_alloc ?_ _) | (with_reducible refine Kd.C_drewN ?_ _) | (with_reducible refine Kd.C_drew ?_)))
                                  (case side2 => exact (Kd.R_reads' HO141.out).2.1)
                                  (case side3 => repeat (first | exact (Kd.R_reads' HO144.out).2.2 | (with_reducible refine Kd.C_alloc ?_ _) | (with_reducible refine Kd.C_drewN ?_ _) | (with_reducible refine Kd.C_drew ?_)))
                                  (case side4 => exact (Kd.R_reads' HO144.out).2.1)
                                  rintro e w' ⟨rfl, ⟨nd, rfl⟩⟩
                                  refine ⟨_, rfl, ?_⟩
                                  refine hK.out _ _ trivial (fun hHeld => ?_)
                                  clear hK K
                                  refine norm_ (a' := ?_) ?_ ?_
                                  rotate_left
                                  · show Act.put _ (some 78) _ = _
                                    simp only [Act.put, List.setIfInBounds_toArray, List.set_cons_zero, List.set_cons_succ, i64_w, i32_w]
                                    rfl
                                  exact norm_ (by simp only [putAll, Act.put, List.setIfInBounds_toArray, List.set_cons_zero, List.set_cons_succ]) (hCont (v156) _ ⟨(by (with_reducible repeat (first | apply Kd.N_alloc | apply Kd.N_drewN | apply Kd.N_drew)); exact Kd.N_mono HO128.out (fun _ hk => ⟨hk.1.1.1, ⟨hk.1.1.2, ⟨hk.1.2, hk.2⟩⟩⟩)), (by (with_reducible repeat (first | apply Kd.R_alloc | apply Kd.R_drewN | apply Kd.R_drew)); exact Kd.R_mono HO138.out (fun _ hk => ⟨hk.1.2, hk.2⟩)), (by (with_reducible repeat (first | apply Kd.R_alloc | apply Kd.R_drewN | apply Kd.R_drew)); exact HO141.out), (by (with_reducible repeat (first | apply Kd.R_alloc | apply Kd.R_drewN | apply Kd.R_drew)); exact Kd.R_mono HO144.out (fun _ hk => ⟨hk.1.2, hk.2⟩)), (by (with_reducible repeat (first | apply Kd.V_alloc | apply Kd.V_drewN | apply Kd.V_drew)); exact Kd.V_mono HO154.out (fun _ hk => ⟨hk.1.2, ⟨hk.1.1.1.2, ⟨hk.1.1.2, hk.2⟩⟩⟩)), (by (with_reducible repeat (first | apply Kd.N_alloc | apply Kd.N_drewN | apply Kd.N_drew)); exact HO157.out), (by repeat (first | (with_reducible first | exact HB.out | apply below_alloc | apply pw_below_drewN | apply below_drew1) | exact HB.out))⟩)
                              rintro v156 w47 ⟨h0_, h1_, h2_, h3_, h4_, h5_, h6_⟩
                              have n0_ : Aside0 (Kd.N (Kd.slice 5 (Kd.int .u8)) 23 w47 w.heap.size (fun k_ => some k_ ≠ (.slice Ao38 y136.length co38 : Value).ownBlock ∧ some k_ ≠ (.slice Ao39 y139.length co39 : Value).ownBlock ∧ some k_ ≠ (.slice (some ad145) t142.length co42 : Value).ownBlock ∧ some k_ ≠ (v156 : Value).ownBlock) (.slice Ao31 y126.length co31) y126) := ⟨h0_⟩
                              have n1_ : Aside0 (Kd.R (Kd.int .u8) 5 w47 w.heap.size (fun k_ => some k_ ≠ (.slice Ao39 y139.length co39 : Value).ownBlock ∧ some k_ ≠ (.slice (some ad145) t142.length co42 : Value).ownBlock) (.slice Ao38 y136.length co38) y136) := ⟨h1_⟩
                              have n2_ : Aside0 (Kd.R (Kd.int .u8) 5 w47 w.heap.size (fun k_ => some k_ ≠ (.slice Ao38 y136.length co38 : Value).ownBlock ∧ some k_ ≠ (.slice (some ad145) t142.length co42 : Value).ownBlock) (.slice Ao39 y139.length co39) y139) := ⟨h2_⟩
                              have n3_ : Aside0 (Kd.R (Kd.int .u8) 5 w47 w.heap.size (fun k_ => some k_ ≠ (.slice Ao38 y136.length co38 : Value).ownBlock ∧ some k_ ≠ (.slice Ao39 y139.length co39 : Value).ownBlock) (.slice (some ad145) t142.length co42) t142) := ⟨h3_⟩
                              have n4_ : Aside0 (Kd.V (Kd.int .u8) 5 w47 w.heap.size (fun k_ => some k_ ≠ (.slice Ao31 y126.length co31 : Value).ownBlock ∧ some k_ ≠ (.slice Ao38 y136.length co38 : Value).ownBlock ∧ some k_ ≠ (.slice Ao39 y139.length co39 : Value).ownBlock ∧ some k_ ≠ (v156 : Value).ownBlock) (.slice (some ad145) y150.length co42) y150) := ⟨h4_⟩
                              have n5_ : Aside0 (Kd.N (Kd.slice 5 (Kd.int .u8)) 23 w47 w.heap.size (fun k_ => some k_ ≠ (.slice Ao31 y126.length co31 : Value).ownBlock ∧ some k_ ≠ (.slice Ao38 y136.length co38 : Value).ownBlock ∧ some k_ ≠ (.slice Ao39 y139.length co39 : Value).ownBlock) v156 y155) := ⟨h5_⟩
                              have n6_ : Aside0 (Below w.heap.size w w47) := ⟨h6_⟩
                              clear HO128
                              clear HO138
                              clear HO141
                              clear HO144
                              clear HB
                              clear h0_ h1_ h2_ h3_ h4_ h5_ h6_
                              have HO128 := n0_
                              have HO138 := n1_
                              have HO141 := n2_
                              have HO144 := n3_
                              have HO154 := n4_
                              have HO157 := n5_
                              have HB := n6_
                              clear n0_ n1_ n2_ n3_ n4_ n5_ n6_
                              have hHeld := trivial
                              obtain ⟨Ao48, co48, eo48⟩ := Kd.N_slice HO157.out
                              (first | subst eo48 | (injection eo48 with f1_ f2_ f3_; have f4_ := f1_.symm; have f5_ := f3_.symm; clear f1_ f2_ f3_; subst f4_; subst f5_))
                              refine norm_ (a' := ?_) ?_ ?_
                              rotate_left
                              · simp only [putAll, Act.put, List.setIfInBounds_toArray, List.set_cons_zero, List.set_cons_succ]
                                rfl
                              refine one_ (i := 7) (N := some 83) #[true, true, true, true, true, true, true, true, true, false, false, false] rfl rfl (one_of HT_.out (by kernel_rfl)) (by decide) (fun K hK => ?_)
                              refine goes_ Try.func11 (by kernel_rfl) rfl #[.slice Ao48 y155.length co48] (by rfl) rfl rfl (by (try simp only [List.map_toArray, List.map_cons, List.map_nil]); first | done | rfl | (simp only [List.length_drop, List.length_take]; rfl)) ?_
                              with_reducible refine (crc_Of.calls k _ _ y155 t158 _ ?side1 ?side2 A27.out).mono ?_
                              (case side1 => repeat (first | exact (Kd.N_reads' HO157.out).2.2 | (with_reducible refine Kd.C_alloc ?_ _) | (with_reducible refine Kd.C_drewN ?_ _) | (with_reducible refine Kd.C_drew ?_)))
                              (case side2 => exact (Kd.N_reads' HO157.out).2.1)
                              rintro e w' ⟨rfl, ⟨nd, rfl⟩⟩
                              refine ⟨_, rfl, ?_⟩
                              refine hK.out _ _ trivial (fun hHeld => ?_)
                              clear hK K
                              refine norm_ (a' := ?_) ?_ ?_
                              rotate_left
                              · show Act.put _ (some 83) _ = _
                                simp only [Act.put, List.setIfInBounds_toArray, List.set_cons_zero, List.set_cons_succ, i64_w, i32_w]
                                rfl
                              refine pure_ (i := 9) (N := some 85) (v := ?_) (a' := ?_) #[true, true, true, true, true, true, true, true, true, true, false, false] rfl rfl (any_of HT_.out (by kernel_rfl)) (fun _ _ _ h => h) (Or.inl ⟨by rfl, ?_⟩) ?_ ?_
                              rotate_left
                              · intro w'
                                go_simp
                                with_reducible rfl
                              rotate_left
                              · simp only [Act.put, List.setIfInBounds_toArray, List.set_cons_zero, List.set_cons_succ, i64_w, i32_w]
                                rfl
                              refine pure_ (i := 10) (N := some 86) (v := ?_) (a' := ?_) #[true, true, true, true, true, true, true, true, true, true, true, false] rfl rfl (any_of HT_.out (by kernel_rfl)) (fun _ _ _ h => h) (Or.inl ⟨by rfl, ?_⟩) ?_ ?_
                              rotate_left
                              · intro w'
                                go_simp
                                with_reducible rfl
                              rotate_left
                              · simp only [Act.put, List.setIfInBounds_toArray, List.set_cons_zero, List.set_cons_succ, i64_w, i32_w]
                                rfl
                              refine pure_ (i := 11) (N := some 6) (v := ?_) (a' := ?_) #[true, true, true, true, true, true, true, true, true, true, true, true] rfl rfl (any_of HT_.out (by kernel_rfl)) (fun _ _ _ h => h) (Or.inl ⟨by rfl, ?_⟩) ?_ ?_
                              rotate_left
                              · intro w'
                                go_simp
                                with_reducible rfl
                              rotate_left
                              · simp only [Act.put, List.setIfInBounds_toArray, List.set_cons_zero, List.set_cons_succ, i64_w, i32_w]
                                rfl
                              refine done_ (done_of HT_.out (by kernel_rfl)) ?_
                              try go_wp2
                              go_ret
                              exact ⟨by first | rfl | (simp [errW_none, errW_some] <;> rfl) | (simp only [← hji15, ← hji18, ← hji21]; first | rfl | (simp [errW_none, errW_some] <;> rfl)) | (simp [*, errW_none, errW_some] <;> rfl), by repeat (first | (with_reducible first | exact HB.out | apply below_alloc | apply pw_below_drewN | apply below_drew1) | exact HB.out)⟩
                            · rw [if_neg c26] at H
                              exact absurd H (by simp)
                          · rw [if_neg c23] at H
                            exact absurd H (by simp)
                        · rw [if_neg c22] at H
                          exact absurd H (by simp)
                      · rw [if_neg c20] at H
                        exact absurd H (by simp)
                    · rw [if_neg c19] at H
                      exact absurd H (by simp)
                  · rw [if_neg c17] at H
                    exact absurd H (by simp)
                · rw [if_neg c16] at H
                  exact absurd H (by simp)
              · rw [if_neg c14] at H
                exact absurd H (by simp)
            · rw [if_neg c13] at H
              exact absurd H (by simp)
        · rw [if_neg c10] at H
          exact absurd H (by simp)
      · rw [if_neg c9] at H
        exact absurd H (by simp)
  · replace c5 := Bool.eq_false_iff.mpr c5
    subst c5
    have H1 : (some false) = some r := by rw [if_neg (show ¬ (false = true) by decide)] at H; exact H
    clear H
    have H := H1
    clear H1
    obtain rfl := Option.some.inj H
    go_enter Try.func7, Try.ntmps7
    go_wp2_with (first | ((with_reducible refine gate_callee (f := 8) rfl ?_); refine goesL_ (some 12) rfl rfl Try.func8 (by kernel_rfl) rfl #[] rfl (by (try simp only [List.map_toArray, List.map_cons, List.map_nil]); first | done | rfl | (simp only [List.length_drop, List.length_take]; rfl)) ?_; (with_reducible refine (halftonelaw03_fixed.calls k  false _ A4.out).mono ?_); rintro e w49 ⟨rfl, hb⟩; refine ⟨_, rfl, ?_⟩; have n0_ := Aside0.mk (below_step (by repeat (first | (with_reducible first | exact HB.out | apply below_alloc | apply pw_below_drewN | apply below_drew1) | exact HB.out)) hb); clear HB; have HB := n0_; clear n0_; (try clear hb); (try clear hb2); (try clear hk); (try clear hi)))
    go_ret
    exact ⟨by first | rfl | (simp [errW_none, errW_some] <;> rfl) | (simp [*, errW_none, errW_some] <;> rfl), by repeat (first | (with_reducible first | exact HB.out | apply below_alloc | apply pw_below_drewN | apply below_drew1) | exact HB.out)⟩

/-- THE ONE PURE STATEMENT of halftonelaw03_CrcSealed: yours. -/
def halftonelaw03_CrcSealed.Pure : Prop := ∀ (l0 : List Int) (a1 : Int) (a2 : Int), l0.length ≤ maxLen → l0.length * 1 ≤ 140737488351232 → (∀ x ∈ l0, (Lit.int .u8 x).wf = true) → (Lit.int .u16 a1).wf = true → (Lit.int .u32 a2).wf = true → ∃ k, halftonelaw03_CrcSealed.f k l0 a1 a2 = some true
theorem halftonelaw03_CrcSealed.walk (P : halftonelaw03_CrcSealed.Pure) (a0 : Option Addr) (len0 cap0 : Nat) (z0 : List Int) (a1 : Int) (a2 : Int) (w : World) (w0 : (a0 = none ∧ len0 = 0 ∧ cap0 = 0 ∧ z0 = []) ∨ ∃ x, a0 = some x ∧ len0 ≤ cap0 ∧ cap0 ≤ maxLen ∧ z0.length = cap0 ∧ (∀ i, i < z0.length → w.cell? (x.add i) = some (.int .u8 (z0.getD i 0))) ∧ ∀ n ∈ z0, (Lit.int .u8 n).wf = true) (y0 : len0 * 1 ≤ 140737488351232) (w1 : (Lit.int .u16 a1).wf = true) (w2 : (Lit.int .u32 a2).wf = true) :
    Calls Try.prog 7 #[.slice a0 len0 cap0, .int .u16 a1, .int .u32 a2] w fun e w' => e = .returned (.bool true) ∧ Below w.heap.size w w' := by
  obtain ⟨l0, rfl, hr0, hm0, hw0, hc0⟩ := ReadsInt.ofRowC w0
  obtain ⟨k, h⟩ := P l0 a1 a2 hm0 y0 hw0 w1 w2
  refine (halftonelaw03_CrcSealed.calls k _ _ l0 a1 a2 true w (Kd.C_of_reads (d := (0 : Int)) (h1 := fun _ => rfl) hr0) hc0 h).mono ?_
  rintro e w' ⟨rfl, hd⟩
  exact ⟨rfl, hd⟩


end Go.Proofs.Yteeahkioeabmoaa.Lib
