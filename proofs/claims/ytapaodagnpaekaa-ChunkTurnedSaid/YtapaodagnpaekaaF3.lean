/- Lines that the kit's print wrote for this seat's functions, laid together (asm.py). -/
import Derived.Test.YtapaodagnpaekaaF0
namespace Go.Proofs.Ytapaodagnpaekaa.Lib
open Go.RowKit Go.Proofs.YtapaodagnpaekaaW.PrintWords Go.Proofs.YtapaodagnpaekaaW.PrintLast Go.Proofs.YtapaodagnpaekaaW.PrintMore
attribute [local go_sem] max2_int min2_int max_two min_two max_three min_three max_four min_four
set_option linter.unusedVariables false
set_option linter.unusedSimpArgs false
/-! ### halftoneref11_Of -/
mutual
def halftoneref11_Of.l0 : Nat → List Int → List Int → Int → Int → Option ((List (S46)) × Int)
  | 0, _, _, _, _ => none
  | k + 1, x0, x10, x11, x12 => if x12 < x11 then (if 0 ≤ x12 then (if x12 < (x10.length : Int) then (if x12 ≥ (x0.length : Int) then (some (([] : List (S46)), 2)) else (if x12 < (x0.length : Int) then (if (rd x0 x12) = (rd x10 x12) then (halftoneref11_Of.l0 k x0 x10 x11 (wrap64 (x12 + 1))) else (some (([] : List (S46)), 3))) else (none))) else (none)) else (none)) else (if 8 ≤ (x0.length : Int) then (halftoneref11_Of.l1 k (x0.drop 8) ([] : List (S46))) else (none))
def halftoneref11_Of.l1 : Nat → List Int → List (S46) → Option ((List (S46)) × Int)
  | 0, _, _ => none
  | k + 1, x0, x6 => if (x0.length : Int) > 0 then (if (x0.length : Int) < 4 then (some (x6, 2)) else (if 4 ≤ (x0.length : Int) then ((halftoneref02_Number.f k (x0.take 4)).bind fun t134 => (if t134 > 1048576 then (some (x6, 9)) else (if (x0.length : Int) < 8 then (some (x6, 2)) else (if 4 ≤ 8 then (if 8 ≤ (x0.length : Int) then ((some ((x0.take 8).drop 4 : List Int)).bind fun y135 => ((halftoneref11_Kind.f k (strOfNums y135)).bind fun t140 => (if t140 = true then (if 8 ≤ (mn (x0.length : Int) (wrap64 (8 + t134))) then (if (mn (x0.length : Int) (wrap64 (8 + t134))) ≤ (x0.length : Int) then ((some ((x0.take ((mn (x0.length : Int) (wrap64 (8 + t134))) : Int).toNat).drop 8 : List Int)).bind fun y141 => ((some (([] : List Int) : List Int)).bind fun y146 => (if y146.length + y141.length < 140737488355328 then (if x6.length < 2513169434916 then ((some (x6 ++ [(⟨strOfNums y135, t134, (y146 ++ y141), false⟩ : S46)] : List (S46))).bind fun y152 => (if (x0.length : Int) < (wrap64 (12 + t134)) then (some (y152, 2)) else (if 0 ≤ (wrap64 (8 + t134)) then (if (wrap64 (8 + t134)) ≤ (wrap64 (12 + t134)) then (if (wrap64 (12 + t134)) ≤ (x0.length : Int) then ((halftoneref02_Number.f k ((x0.take ((wrap64 (12 + t134)) : Int).toNat).drop ((wrap64 (8 + t134)) : Int).toNat)).bind fun t160 => (if 4 ≤ (wrap64 (8 + t134)) then (if (wrap64 (8 + t134)) ≤ (x0.length : Int) then ((halftoneref03_Of.f k ((x0.take ((wrap64 (8 + t134)) : Int).toNat).drop 4)).bind fun t166 => (if ((t160) % 4294967296) = t166 then (if 0 ≤ (wrap64 ((y152.length : Int) - 1)) then (if (wrap64 ((y152.length : Int) - 1)) < (y152.length : Int) then (if 0 ≤ (wrap64 (12 + t134)) then (halftoneref11_Of.l1 k (x0.drop ((wrap64 (12 + t134)) : Int).toNat) (y152.set ((wrap64 ((y152.length : Int) - 1)) : Int).toNat (⟨(rd_T46 y152 (wrap64 ((y152.length : Int) - 1))).f0, (rd_T46 y152 (wrap64 ((y152.length : Int) - 1))).f1, (rd_T46 y152 (wrap64 ((y152.length : Int) - 1))).f2, true⟩ : S46))) else (none)) else (none)) else (none)) else (some (y152, 4)))) else (none)) else (none))) else (none)) else (none)) else (none)))) else (none)) else (none)))) else (none)) else (none)) else (some (x6, 3))))) else (none)) else (none))))) else (none))) else (some (x6, 0))
end
def halftoneref11_Of.f (k : Nat) (l0 : List Int) : Option ((List (S46)) × Int) := (halftoneref11_First.f).bind fun t119 => (halftoneref11_Of.l0 k l0 t119 (t119.length : Int) 0)
theorem halftoneref11_Of.mono_l : ∀ k, (∀ y0 y1 y2 y3, LeO (halftoneref11_Of.l0 k y0 y1 y2 y3) (halftoneref11_Of.l0 (k + 1) y0 y1 y2 y3)) ∧ (∀ y0 y1, LeO (halftoneref11_Of.l1 k y0 y1) (halftoneref11_Of.l1 (k + 1) y0 y1))
  | 0 => ⟨fun _ _ _ _ r h => by simp [halftoneref11_Of.l0] at h, fun _ _ r h => by simp [halftoneref11_Of.l1] at h⟩
  | k + 1 => by
    obtain ⟨ih0, ih1⟩ := halftoneref11_Of.mono_l k
    refine ⟨?_, ?_⟩
    · intro y0 y1 y2 y3
      unfold halftoneref11_Of.l0
      repeat' first
      | (with_reducible exact ih0 _ _ _ _)
      | (with_reducible exact ih1 _ _)
      | (with_reducible exact halftoneref02_Number.mono _ _)
      | (with_reducible exact halftoneref03_Of.mono _ _)
      | (with_reducible exact halftoneref11_Kind.mono _ _)
      | (with_reducible exact LeO.refl _)
      | (with_reducible exact LeO.none _)
      | (with_reducible refine LeO.ite ?_ ?_)
      | (with_reducible refine LeO.bind ?_ (fun _ => ?_))
      | exact ih0 _ _ _ _
      | exact ih1 _ _
      | exact halftoneref02_Number.mono _ _
      | exact halftoneref03_Of.mono _ _
      | exact halftoneref11_Kind.mono _ _
      | exact LeO.none _
      | refine LeO.ite ?_ ?_
      | refine LeO.bind ?_ (fun _ => ?_)
    · intro y0 y1
      unfold halftoneref11_Of.l1
      repeat' first
      | (with_reducible exact ih0 _ _ _ _)
      | (with_reducible exact ih1 _ _)
      | (with_reducible exact halftoneref02_Number.mono _ _)
      | (with_reducible exact halftoneref03_Of.mono _ _)
      | (with_reducible exact halftoneref11_Kind.mono _ _)
      | (with_reducible exact LeO.refl _)
      | (with_reducible exact LeO.none _)
      | (with_reducible refine LeO.ite ?_ ?_)
      | (with_reducible refine LeO.bind ?_ (fun _ => ?_))
      | exact ih0 _ _ _ _
      | exact ih1 _ _
      | exact halftoneref02_Number.mono _ _
      | exact halftoneref03_Of.mono _ _
      | exact halftoneref11_Kind.mono _ _
      | exact LeO.none _
      | refine LeO.ite ?_ ?_
      | refine LeO.bind ?_ (fun _ => ?_)
theorem halftoneref11_Of.mono : ∀ a0 k, LeO (halftoneref11_Of.f k a0) (halftoneref11_Of.f (k + 1) a0) := by
  intro a0 k
  obtain ⟨ih0, ih1⟩ := halftoneref11_Of.mono_l k
  unfold halftoneref11_Of.f
  repeat' first
      | (with_reducible exact ih0 _ _ _ _)
      | (with_reducible exact ih1 _ _)
      | (with_reducible exact halftoneref02_Number.mono _ _)
      | (with_reducible exact halftoneref03_Of.mono _ _)
      | (with_reducible exact halftoneref11_Kind.mono _ _)
      | (with_reducible exact LeO.refl _)
      | (with_reducible exact LeO.none _)
      | (with_reducible refine LeO.ite ?_ ?_)
      | (with_reducible refine LeO.bind ?_ (fun _ => ?_))
      | exact ih0 _ _ _ _
      | exact ih1 _ _
      | exact halftoneref02_Number.mono _ _
      | exact halftoneref03_Of.mono _ _
      | exact halftoneref11_Kind.mono _ _
      | exact LeO.none _
      | refine LeO.ite ?_ ?_
      | refine LeO.bind ?_ (fun _ => ?_)

end Go.Proofs.Ytapaodagnpaekaa.Lib
