/- slices.Sorted over maps.Keys at this program: the library's contracts laid at its numbers. -/
import Derived.Shelf.SlIterI.Nil
import Derived.Shelf.SortM.Plain
import Derived.Shelf.SortM.SortNone
import Derived.Ground.GgzProg
import Derived.Ground.SlgmProg
import Derived.Test.YthkiedkifhloeaaV1
namespace Go.Proofs.Ythkiedkifhloeaa.Lib
open Go.RowKit Go.Maps Go.Sort Go.Shelf Go.Proofs.YthkiedkifhloeaaW.PrintWords Go.Proofs.YthkiedkifhloeaaW.PrintLast Go.Proofs.YthkiedkifhloeaaW.PrintMore
def keysA_ren : Go.Shelf.Ren := ⟨fun | 7 => 24 | 10 => 27 | n => n, fun | 23 => 49 | 26 => 3 | 3 => 22 | 28 => 59 | 0 => 0 | 27 => 58 | 33 => 62 | 4 => 4 | n => n, fun | n => n⟩
theorem keysA : Go.Proofs.SlLaysZI.n7 Try.prog keysA_ren := {
  mixed := by kernel_rfl
  f7 := ⟨Try.f24.name, by decide, Try.func24.trans (congrArg some (by kernel_rfl))⟩
  f10 := ⟨Try.f27.name, by decide, Try.func27.trans (congrArg some (by kernel_rfl))⟩
  t0 := Try.underlying0
  a0 := Try.isAgg0
  z0 := Try.sizeOf0
  v0 := Try.zeroValue0
  t4 := Try.underlying4
  a4 := Try.isAgg4
  z4 := Try.sizeOf4
  v4 := Try.zeroValue4
  t23 := Try.underlying49
  a23 := Try.isAgg49
  z23 := Try.sizeOf49
  v23 := Try.zeroValue49
  t26 := Try.underlying3
  a26 := Try.isAgg3
  z26 := Try.sizeOf3
  v26 := Try.zeroValue3
  t27 := Try.underlying58
  a27 := Try.isAgg58
  z27 := Try.sizeOf58
  v27 := Try.zeroValue58
  t28 := Try.underlying59
  a28 := Try.isAgg59
  z28 := Try.sizeOf59
  v28 := Try.zeroValue59
  t33 := Try.underlying62
  a33 := Try.isAgg62
  z33 := Try.sizeOf62
  v33 := Try.zeroValue62 }
def sortedA_ren : Go.Shelf.Ren := ⟨fun | 6 => 23 | 8 => 25 | 9 => 26 | 11 => 28 | 13 => 30 | 12 => 29 | 23 => 40 | 24 => 41 | 14 => 31 | 15 => 32 | 16 => 33 | 17 => 34 | 18 => 35 | 19 => 36 | 20 => 37 | 21 => 38 | 22 => 39 | 25 => 42 | 26 => 43 | 27 => 44 | 28 => 45 | 29 => 46 | 30 => 47 | 31 => 48 | n => n, fun | 26 => 3 | 28 => 59 | 24 => 56 | 0 => 0 | 3 => 3 | 37 => 66 | 48 => 77 | 50 => 79 | 4 => 4 | 40 => 69 | 39 => 68 | 45 => 74 | 5 => 5 | 9 => 9 | 51 => 80 | 55 => 84 | 57 => 86 | 58 => 87 | 33 => 62 | n => n, fun | n => n⟩
theorem sortedA : Go.Proofs.SlLaysZI.n6 Try.prog sortedA_ren := {
  mixed := by kernel_rfl
  f6 := ⟨Try.f23.name, by decide, Try.func23.trans (congrArg some (by kernel_rfl))⟩
  f8 := ⟨Try.f25.name, by decide, Try.func25.trans (congrArg some (by kernel_rfl))⟩
  f11 := ⟨Try.f28.name, by decide, Try.func28.trans (congrArg some (by kernel_rfl))⟩
  t0 := Try.underlying0
  a0 := Try.isAgg0
  z0 := Try.sizeOf0
  v0 := Try.zeroValue0
  t24 := Try.underlying56
  a24 := Try.isAgg56
  z24 := Try.sizeOf56
  v24 := Try.zeroValue56
  t26 := Try.underlying3
  a26 := Try.isAgg3
  z26 := Try.sizeOf3
  v26 := Try.zeroValue3
  t28 := Try.underlying59
  a28 := Try.isAgg59
  z28 := Try.sizeOf59
  v28 := Try.zeroValue59
  i26 := by kernel_rfl }
def sortA_ren : Go.Shelf.Ren := ⟨fun | 5 => 26 | 8 => 30 | 7 => 29 | 19 => 40 | 20 => 41 | 10 => 31 | 11 => 32 | 12 => 33 | 13 => 34 | 14 => 35 | 15 => 36 | 16 => 37 | 17 => 38 | 18 => 39 | 30 => 42 | 31 => 43 | 32 => 44 | 33 => 45 | 34 => 46 | 35 => 47 | 40 => 48 | n => n, fun | 23 => 56 | 25 => 3 | 3 => 3 | 32 => 66 | 22 => 56 | 0 => 0 | 44 => 77 | 46 => 79 | 4 => 4 | 36 => 69 | 35 => 68 | 41 => 74 | 5 => 5 | 9 => 9 | 53 => 80 | 57 => 84 | 63 => 86 | 64 => 87 | n => n, fun | n => n⟩
theorem sortA : Go.Proofs.SlLaysM.n5 Try.prog sortA_ren := {
  mixed := by kernel_rfl
  f5 := ⟨Try.f26.name, by decide, Try.func26.trans (congrArg some (by kernel_rfl))⟩
  f7 := ⟨Try.f29.name, by decide, Try.func29.trans (congrArg some (by kernel_rfl))⟩
  f8 := Try.func30.trans (congrArg some (by kernel_rfl))
  f10 := ⟨Try.f31.name, by decide, Try.func31.trans (congrArg some (by kernel_rfl))⟩
  f11 := ⟨Try.f32.name, by decide, Try.func32.trans (congrArg some (by kernel_rfl))⟩
  f12 := ⟨Try.f33.name, by decide, Try.func33.trans (congrArg some (by kernel_rfl))⟩
  f13 := ⟨Try.f34.name, by decide, Try.func34.trans (congrArg some (by kernel_rfl))⟩
  f14 := ⟨Try.f35.name, by decide, Try.func35.trans (congrArg some (by kernel_rfl))⟩
  f15 := ⟨Try.f36.name, by decide, Try.func36.trans (congrArg some (by kernel_rfl))⟩
  f16 := ⟨Try.f37.name, by decide, Try.func37.trans (congrArg some (by kernel_rfl))⟩
  f17 := ⟨Try.f38.name, by decide, Try.func38.trans (congrArg some (by kernel_rfl))⟩
  f18 := ⟨Try.f39.name, by decide, Try.func39.trans (congrArg some (by kernel_rfl))⟩
  f19 := Try.func40.trans (congrArg some (by kernel_rfl))
  f20 := Try.func41.trans (congrArg some (by kernel_rfl))
  f30 := ⟨Try.f42.name, by decide, Try.func42.trans (congrArg some (by kernel_rfl))⟩
  f31 := Try.func43.trans (congrArg some (by kernel_rfl))
  f32 := Try.func44.trans (congrArg some (by kernel_rfl))
  f33 := ⟨Try.f45.name, by decide, Try.func45.trans (congrArg some (by kernel_rfl))⟩
  f34 := ⟨Try.f46.name, by decide, Try.func46.trans (congrArg some (by kernel_rfl))⟩
  f35 := ⟨Try.f47.name, by decide, Try.func47.trans (congrArg some (by kernel_rfl))⟩
  f40 := ⟨Try.f48.name, by decide, Try.func48.trans (congrArg some (by kernel_rfl))⟩
  t0 := Try.underlying0
  a0 := Try.isAgg0
  z0 := Try.sizeOf0
  v0 := Try.zeroValue0
  t3 := Try.underlying3
  a3 := Try.isAgg3
  z3 := Try.sizeOf3
  v3 := Try.zeroValue3
  t4 := Try.underlying4
  a4 := Try.isAgg4
  z4 := Try.sizeOf4
  v4 := Try.zeroValue4
  t5 := Try.underlying5
  a5 := Try.isAgg5
  z5 := Try.sizeOf5
  v5 := Try.zeroValue5
  t9 := Try.underlying9
  a9 := Try.isAgg9
  z9 := Try.sizeOf9
  v9 := Try.zeroValue9
  t22 := Try.underlying56
  a22 := Try.isAgg56
  z22 := Try.sizeOf56
  v22 := Try.zeroValue56
  t23 := Try.underlying56
  a23 := Try.isAgg56
  z23 := Try.sizeOf56
  v23 := Try.zeroValue56
  t25 := Try.underlying3
  a25 := Try.isAgg3
  z25 := Try.sizeOf3
  v25 := Try.zeroValue3
  t32 := Try.underlying66
  a32 := Try.isAgg66
  z32 := Try.sizeOf66
  v32 := Try.zeroValue66
  t35 := Try.underlying68
  a35 := Try.isAgg68
  z35 := Try.sizeOf68
  v35 := Try.zeroValue68
  t36 := Try.underlying69
  a36 := Try.isAgg69
  z36 := Try.sizeOf69
  v36 := Try.zeroValue69
  t41 := Try.underlying74
  a41 := Try.isAgg74
  z41 := Try.sizeOf74
  v41 := Try.zeroValue74
  t44 := Try.underlying77
  a44 := Try.isAgg77
  z44 := Try.sizeOf77
  v44 := Try.zeroValue77
  t46 := Try.underlying79
  a46 := Try.isAgg79
  z46 := Try.sizeOf79
  v46 := Try.zeroValue79
  t53 := Try.underlying80
  a53 := Try.isAgg80
  z53 := Try.sizeOf80
  v53 := Try.zeroValue80
  t57 := Try.underlying84
  a57 := Try.isAgg84
  z57 := Try.sizeOf84
  v57 := Try.zeroValue84
  t63 := Try.underlying86
  a63 := Try.isAgg86
  z63 := Try.sizeOf86
  v63 := Try.zeroValue86
  t64 := Try.underlying87
  a64 := Try.isAgg87
  z64 := Try.sizeOf87
  v64 := Try.zeroValue87 }
theorem sortsA (m : Nat) : AnyZI.SortsIn Try.prog sortedA_ren Fence.wide m :=
  ⟨fun blk off cap ss W hH hblk hsz => callsIn_wide.2 (AnyM.slices_Sort_int sortA blk off cap ss W hH hblk hsz),
   fun p cap W => callsIn_wide.2 (AnyM.slices_Sort_int_none sortA p cap W)⟩
theorem keys_walk (mb : Option Nat) (W : World) : Calls Try.prog 24 #[.map mb] W fun e w' => e = .returned (.func (.func 27) #[] #[.pointer (some ⟨W.heap.size, 0, none⟩)]) ∧ w' = W.alloc (.cells #[.map mb] 49) :=
  (callsIn_wide (n := 5)).1 (AnyZI.keys_in keysA Fence.wide 5 trivial rfl mb W)
set_option maxHeartbeats 1000000 in
theorem sorted_walk {mb nn Bm : Nat} {D0 : DataW Value} (W : World) (hown : W.ownsMap Try.prog 3 tokR mb nn D0) (hc : W.cell? ⟨Bm, 0, none⟩ = some (.map (some mb))) (hB : Bm < W.heap.size) (hmax : Maps.size D0 ≤ 1000000) :
    Calls Try.prog 23 #[.func (.func 27) #[] #[.pointer (some ⟨Bm, 0, none⟩)]] W fun e w' => ∃ (v : Value) (ss : List Int), e = .returned v ∧ ss.Perm (intKeys D0) ∧
      w'.ownsRow W.heap.size 3 1 v ss.length ((ss.mergeSort (fun x y => decide (x ≤ y))).map encZ) ∧ Below W.heap.size W w' := by
  have hseq : SeqGives Fence.wide 2 Try.prog 27 #[.pointer (some ⟨Bm, 0, none⟩)] encZ (fun ss => ss.Perm (intKeys D0)) (Maps.size D0) W :=
    AnyZI.keys_gives (ρ := keysA_ren) { keysA with } Fence.wide _ trivial rfl (by omega) Bm mb nn D0 W hB hc hown
  have cS := AnyZI.sorted_in sortedA Fence.wide 5 trivial trivial trivial trivial rfl (by omega) (sortsA _) (enters_of Try.func26 (by kernel_rfl) rfl) 27 #[.pointer (some ⟨Bm, 0, none⟩)] trivial (enters_of Try.func27 (by kernel_rfl) rfl) _ _ (by unfold maxLen; omega) (by omega) _ hseq
  change CallsIn _ _ Try.prog 23 _ _ _ at cS
  refine ((callsIn_wide (n := 5)).1 cS).mono ?_
  rintro e w' ⟨v, ss, rfl, hS, hrow, _, hb⟩
  exact ⟨v, ss, rfl, hS, hrow, hb⟩
end Go.Proofs.Ythkiedkifhloeaa.Lib
