/- Lines that the kit's print wrote for this seat's functions, laid together (asm.py). -/
import Derived.Test.YtgfhggbnlnpebaaProg
import Derived.Below
import Derived.Deep.Draws
import Derived.Deep.AppendLies
import Derived.Maps.AppendAt
import Derived.OwnWalk
import Derived.Laws.BytesArg
import Derived.Laws.MakeOwn
import Derived.Laws.OwnMore
import Derived.Deep.OwnRows
import Derived.Tactics
import Derived.Lib.ConvBytes
import Derived.Laws.Slices
import Derived.WalkKit
import Derived.KernelRfl
import Derived.RowKit3
import Derived.Deep.LoopGhost
import Derived.Deep.QuietTactic
import Derived.BigQuiet
import Derived.WideLaws
import Derived.Deep.DeepCutAuto
import Derived.Deep.CutBlock
import Derived.Deep.RegionHeld3
import Derived.Laws.Rows
import Derived.Lib.AppendStr
import Derived.ArgAppend
import Derived.Laws.IdiomCopy
import Derived.OrdersHeld
import Derived.Laws.BitsLemmas
import Derived.RowKit
import Derived.Test.YtgfhggbnlnpebaaWWords
import Derived.Test.YtgfhggbnlnpebaaWLast
import Derived.Test.YtgfhggbnlnpebaaWTab
import Derived.Test.YtgfhggbnlnpebaaWFour
import Derived.Test.YtgfhggbnlnpebaaWQPut
import Derived.Test.YtgfhggbnlnpebaaWApart
import Derived.Test.YtgfhggbnlnpebaaWArr
import Derived.Test.YtgfhggbnlnpebaaWZeros
import Derived.Test.YtgfhggbnlnpebaaWFoot
import Derived.Test.YtgfhggbnlnpebaaWKept
import Derived.Test.YtgfhggbnlnpebaaWShare
import Derived.Test.YtgfhggbnlnpebaaWN
import Derived.Test.YtgfhggbnlnpebaaWFootNe
import Derived.Test.YtgfhggbnlnpebaaWAt
import Derived.Test.YtgfhggbnlnpebaaWEqStruct
import Derived.Test.YtgfhggbnlnpebaaWRepsOne
import Derived.Test.YtgfhggbnlnpebaaWInv
import Derived.Test.YtgfhggbnlnpebaaWInvWords
import Derived.Test.YtgfhggbnlnpebaaWGuard
import Derived.Test.YtgfhggbnlnpebaaWNEv
import Derived.Test.YtgfhggbnlnpebaaWMore
namespace Go.Proofs.Ytgfhggbnlnpebaa.Lib
open Go.RowKit Go.Proofs.YtgfhggbnlnpebaaW.PrintWords Go.Proofs.YtgfhggbnlnpebaaW.PrintLast Go.Proofs.YtgfhggbnlnpebaaW.PrintMore
attribute [local go_sem] max2_int min2_int max_two min_two max_three min_three max_four min_four
set_option linter.unusedVariables false
set_option linter.unusedSimpArgs false



def errW : Option Int → Value
  | none => .nilIface
  | some c => .iface 0 (.int .i64 c)
theorem errW_none : errW none = .nilIface := rfl
theorem errW_some (c : Int) : errW (some c) = .iface 0 (.int .i64 c) := rfl

theorem info5 : (Try.prog.info? 5).map (fun i => (i.zero, i.size, i.bytes)) = some (some (.int .u8 0), 1, 1) := by kernel_rfl
-- the values' own types


/-! ### adler_More -/
mutual
def adler_More.l0 : Nat → List Int → Int → Int → Option (Int)
  | 0, _, _, _ => none
  | k + 1, x1, x5, x6 => if (x1.length : Int) > 0 then (if 0 ≤ (mn (x1.length : Int) 5000) then (if (mn (x1.length : Int) 5000) ≤ (x1.length : Int) then ((some (x1.take ((mn (x1.length : Int) 5000) : Int).toNat : List Int)).bind fun y101 => (adler_More.l1 k x1 x5 x6 (mn (x1.length : Int) 5000) y101 (y101.length : Int) 0)) else (none)) else (none)) else (some (Go.bits .or .u32 ((x6 * 65536) % 4294967296) x5))
def adler_More.l1 : Nat → List Int → Int → Int → Int → List Int → Int → Int → Option (Int)
  | 0, _, _, _, _, _, _, _ => none
  | k + 1, x1, x5, x6, x7, x24, x25, x26 => if x26 < x25 then (if 0 ≤ x26 then (if x26 < (x24.length : Int) then (adler_More.l1 k x1 ((x5 + ((rd x24 x26) % 4294967296)) % 4294967296) ((x6 + ((x5 + ((rd x24 x26) % 4294967296)) % 4294967296)) % 4294967296) x7 x24 x25 (wrap64 (x26 + 1))) else (none)) else (none)) else (if 0 ≤ x7 then (if x7 ≤ (x1.length : Int) then (adler_More.l0 k (x1.drop (x7 : Int).toNat) (Int.tmod x5 65521) (Int.tmod x6 65521)) else (none)) else (none))
end
def adler_More.f (k : Nat) (a0 : Int) (l1 : List Int) : Option (Int) := adler_More.l0 k l1 (Int.tmod (Go.bits .and .u32 a0 65535) 65521) (Int.tmod (a0 / 65536) 65521)
theorem adler_More.mono_l : ∀ k, (∀ y0 y1 y2, LeO (adler_More.l0 k y0 y1 y2) (adler_More.l0 (k + 1) y0 y1 y2)) ∧ (∀ y0 y1 y2 y3 y4 y5 y6, LeO (adler_More.l1 k y0 y1 y2 y3 y4 y5 y6) (adler_More.l1 (k + 1) y0 y1 y2 y3 y4 y5 y6))
  | 0 => ⟨fun _ _ _ r h => by simp [adler_More.l0] at h, fun _ _ _ _ _ _ _ r h => by simp [adler_More.l1] at h⟩
  | k + 1 => by
    obtain ⟨ih0, ih1⟩ := adler_More.mono_l k
    refine ⟨?_, ?_⟩
    · intro y0 y1 y2
      unfold adler_More.l0
      repeat' first
      | (with_reducible exact ih0 _ _ _)
      | (with_reducible exact ih1 _ _ _ _ _ _ _)
      | (with_reducible exact LeO.refl _)
      | (with_reducible exact LeO.none _)
      | (with_reducible refine LeO.ite ?_ ?_)
      | (with_reducible refine LeO.bind ?_ (fun _ => ?_))
      | exact ih0 _ _ _
      | exact ih1 _ _ _ _ _ _ _
      | exact LeO.none _
      | refine LeO.ite ?_ ?_
      | refine LeO.bind ?_ (fun _ => ?_)
    · intro y0 y1 y2 y3 y4 y5 y6
      unfold adler_More.l1
      repeat' first
      | (with_reducible exact ih0 _ _ _)
      | (with_reducible exact ih1 _ _ _ _ _ _ _)
      | (with_reducible exact LeO.refl _)
      | (with_reducible exact LeO.none _)
      | (with_reducible refine LeO.ite ?_ ?_)
      | (with_reducible refine LeO.bind ?_ (fun _ => ?_))
      | exact ih0 _ _ _
      | exact ih1 _ _ _ _ _ _ _
      | exact LeO.none _
      | refine LeO.ite ?_ ?_
      | refine LeO.bind ?_ (fun _ => ?_)
theorem adler_More.mono : ∀ a0 a1 k, LeO (adler_More.f k a0 a1) (adler_More.f (k + 1) a0 a1) := by
  intro a0 a1 k
  obtain ⟨ih0, ih1⟩ := adler_More.mono_l k
  unfold adler_More.f
  repeat' first
      | (with_reducible exact ih0 _ _ _)
      | (with_reducible exact ih1 _ _ _ _ _ _ _)
      | (with_reducible exact LeO.refl _)
      | (with_reducible exact LeO.none _)
      | (with_reducible refine LeO.ite ?_ ?_)
      | (with_reducible refine LeO.bind ?_ (fun _ => ?_))
      | exact ih0 _ _ _
      | exact ih1 _ _ _ _ _ _ _
      | exact LeO.none _
      | refine LeO.ite ?_ ?_
      | refine LeO.bind ?_ (fun _ => ?_)
set_option maxHeartbeats 8000000 in
set_option maxRecDepth 100000 in
theorem adler_More.calls (k : Nat) (a0 : Int) (P1_ : Nat → Prop) (A1 : Option Addr) (c1 : Nat) (l1 : List Int) (r : Int) (w : World) (hs1 : Kd.V (Kd.int .u8) 5 w w.heap.size (fun k_ => P1_ k_) (.slice A1 l1.length c1) l1) (h : adler_More.f k a0 l1 = some r) :
    Calls Try.prog 9 #[.int .u32 a0, .slice A1 l1.length c1] w fun e w' => e = .returned (.int .u32 r) ∧ Below w.heap.size w w' := by
  have HO1 := Aside0.mk (show Kd.V (Kd.int .u8) 5 w w.heap.size (fun k_ => (P1_ k_ ∨ w.heap.size ≤ k_)) (.slice A1 l1.length c1) l1 from Kd.V_mono hs1 (fun k_ hk => .inl hk))
  have HB := Aside0.mk (Below.refl w.heap.size w)
  have H : (adler_More.l0 k l1 (Int.tmod (Go.bits .and .u32 a0 65535) 65521) (Int.tmod (a0 / 65536) 65521)) = some r := h
  clear h
  have H' := Aside0.mk H
  clear H
  go_enter Try.func9, Try.ntmps9
  go_wp2
  repeat (go_quiet (fail); try go_wp2)
  go_loopg [1, 5, 6] k (fun kq v1 v5 v6 w' => ∃ (x1_1 : List Int) (x5_1 : Int) (x6_1 : Int), v5 = .int .u32 x5_1 ∧ v6 = .int .u32 x6_1 ∧ Aside0 (adler_More.l0 kq x1_1 x5_1 x6_1 = some r) ∧ Aside0 (kq ≤ k) ∧ Aside0 (Kd.V (Kd.int .u8) 5 w' w.heap.size (fun k_ => (P1_ k_ ∨ w.heap.size ≤ k_)) v1 x1_1) ∧ Aside0 (Below w.heap.size w w'))
  case atStart => exact ⟨(l1), (Int.tmod (Go.bits .and .u32 a0 65535) 65521), (Int.tmod (a0 / 65536) 65521), (by first | rfl | (simp; done) | (simp [*]; done)), (by first | rfl | (simp; done) | (simp [*]; done)), H', ⟨Nat.le_refl _⟩, ⟨by (with_reducible repeat (first | apply Kd.V_alloc | apply Kd.V_drewN | apply Kd.V_drew)); exact HO1.out⟩, ⟨by repeat (first | (with_reducible first | exact HB.out | apply below_alloc | apply pw_below_drewN | apply below_drew1) | exact HB.out)⟩⟩
  case round =>
    clear H'
    try clear c1
    try clear p2
    obtain ⟨x1_1, x5_1, x6_1, rfl, rfl, HA, HK1, HO_1, HB⟩ := hrel
    cases gk with
    | zero => exact absurd HA.out (by simp [adler_More.l0])
    | succ k1 =>
      have H := HA.out
      clear HA
      simp only [adler_More.l0] at H
      by_cases c3 : (x1_1.length : Int) > 0
      · rw [if_pos c3] at H
        have c3b0 : decide (0 < (x1_1.length : Int)) = true := decide_eq_true c3
        have c3b1 : decide (0 < x1_1.length) = true := decide_eq_true (by omega)
        clear c3
        obtain ⟨ji4, hji4⟩ : ∃ j_ : Int, (mn (x1_1.length : Int) 5000) = j_ := ⟨_, rfl⟩
        replace H : (if 0 ≤ (ji4) then (if (ji4) ≤ (x1_1.length : Int) then ((some (x1_1.take ((ji4) : Int).toNat : List Int)).bind fun y101 => (adler_More.l1 k1 x1_1 x5_1 x6_1 ji4 y101 (y101.length : Int) 0)) else (none)) else (none)) = some r := by first | (rw [hji4] at H; exact H) | (simp only [hji4] at H ⊢; exact H)
        have hji4_ : (if 5000 < (x1_1.length : Int) then 5000 else (x1_1.length : Int)) = ji4 := hji4
        by_cases c5 : 0 ≤ (ji4)
        · rw [if_pos c5] at H
          have c5b0 := eq_true c5
          have c5b1 : decide (0 ≤ (ji4)) = true := decide_eq_true c5
          clear c5
          by_cases c6 : (ji4) ≤ (x1_1.length : Int)
          · rw [if_pos c6] at H
            have c6b0 := eq_true c6
            have c6b1 : decide ((ji4) ≤ (x1_1.length : Int)) = true := decide_eq_true c6
            clear c6
            obtain ⟨y101, hy101⟩ : ∃ y_ : List Int, y_ = (x1_1.take ((ji4) : Int).toNat) := ⟨_, rfl⟩
            replace H : (adler_More.l1 k1 x1_1 x5_1 x6_1 ji4 y101 (y101.length : Int) 0) = some r := by first | (rw [hy101]; with_reducible exact H) | (have H2_ := (Option.bind_some _ _).symm.trans H; rw [hy101]; with_reducible exact H2_) | (have H2_ := (Option.bind_some _ _).symm.trans H; with_reducible exact H2_) | with_reducible exact H | (rw [hy101]; exact H) | exact H
            have Ny101 := Aside0.mk hy101
            clear hy101
            have H' := Aside0.mk H
            clear H
            obtain ⟨Ao7, co7, eo7⟩ := Kd.V_slice HO_1.out
            subst eo7
            have q8 : ((ji4) : Int) ≤ ((x1_1.length : Int) : Int) := of_decide_eq_true (by first | (with_reducible assumption) | assumption)
            obtain ⟨i08, hi08, _, hsz8, _⟩ := info_parts info5
            have hroom8 : x1_1.length ≤ co7 := (Kd.V_reads' HO_1.out).2.1
            have hC8 : Kd.F (Kd.int .u8) _ _ Ao7 x1_1.length x1_1 := (Kd.V_at (base := w.heap.size) HO_1.out).2.2
            have hcut8 := cut_to (P := Try.prog) 23 5 .i64 Try.underlying23 hi08 Ao7 x1_1.length co7 (ji4) (of_decide_eq_true (by first | (with_reducible assumption) | assumption)) q8 hroom8
            have hr8 := Kd.F_take (m := ((ji4) : Int).toNat) hC8 (by omega)
            have hy8 : y101.length = ((ji4) : Int).toNat := (by rw [Ny101.out, List.length_take]; omega)
            rw [← Ny101.out] at hr8
            rw [← hy8] at hcut8
            have HO105 := Aside0.mk (show Kd.V (Kd.int .u8) 5 _ w.heap.size _ (.slice Ao7 y101.length co7) y101 from Kd.V_mk (by omega) hr8)
            have HC105 := Aside0.mk (show y101.length ≤ co7 from by omega)
            clear hr8 hC8 hroom8 hi08 hsz8
            have KY8 := Aside0.mk hy8
            clear hy8
            replace q8 := eq_true q8
            go_wp2
            repeat (go_quiet (fail); try go_wp2)
            go_loopg [5, 6, 26] k1 (fun kq v5 v6 v26 w' => ∃ (x5_2 : Int) (x6_2 : Int) (x26_2 : Int), v5 = .int .u32 x5_2 ∧ v6 = .int .u32 x6_2 ∧ v26 = .int .i64 x26_2 ∧ Aside0 (adler_More.l1 kq x1_1 x5_2 x6_2 ji4 y101 (y101.length : Int) x26_2 = some r) ∧ Aside0 (kq ≤ k1) ∧ Aside0 (Kd.V (Kd.int .u8) 5 w' w.heap.size (fun k_ => (P1_ k_ ∨ w.heap.size ≤ k_)) (.slice Ao7 x1_1.length co7) x1_1) ∧ Aside0 (Kd.V (Kd.int .u8) 5 w' w.heap.size (fun k_ => (P1_ k_ ∨ w.heap.size ≤ k_)) (.slice Ao7 y101.length co7) y101) ∧ Aside0 (Below w.heap.size w w'))
            case atStart => exact ⟨(x5_1), (x6_1), (0), (by first | rfl | (simp; done) | (simp [*]; done)), (by first | rfl | (simp; done) | (simp [*]; done)), (by first | rfl | (simp; done) | (simp [*]; done)), H', ⟨Nat.le_refl _⟩, ⟨by (with_reducible repeat (first | apply Kd.V_alloc | apply Kd.V_drewN | apply Kd.V_drew)); exact HO_1.out⟩, ⟨by (with_reducible repeat (first | apply Kd.V_alloc | apply Kd.V_drewN | apply Kd.V_drew)); exact HO105.out⟩, ⟨by repeat (first | (with_reducible first | exact HB.out | apply below_alloc | apply pw_below_drewN | apply below_drew1) | exact HB.out)⟩⟩
            case round =>
              clear H'
              try clear c1
              try clear p2
              try clear c3
              try clear c3b0
              try clear c3b1
              try clear c5
              try clear c5b0
              try clear c5b1
              try clear c6
              try clear c6b0
              try clear c6b1
              try clear q8
              try clear p2
              try clear q8
              obtain ⟨x5_2, x6_2, x26_2, rfl, rfl, rfl, HA, HK2, HO_1, HO_24, HB⟩ := hrel
              cases gk with
              | zero => exact absurd HA.out (by simp [adler_More.l1])
              | succ k2 =>
                have H := HA.out
                clear HA
                simp only [adler_More.l1] at H
                by_cases c9 : x26_2 < (y101.length : Int)
                · rw [if_pos c9] at H
                  have c9b0 : decide (x26_2 < (y101.length : Int)) = true := decide_eq_true c9
                  clear c9
                  by_cases c10 : 0 ≤ x26_2
                  · rw [if_pos c10] at H
                    have c10b0 : decide (0 ≤ x26_2) = true := decide_eq_true c10
                    clear c10
                    by_cases c11 : x26_2 < (y101.length : Int)
                    · rw [if_pos c11] at H
                      have c11b0 : decide (x26_2 < (y101.length : Int)) = true := decide_eq_true c11
                      clear c11
                      have H' := Aside0.mk H
                      clear H
                      have p106 : 0 ≤ (x26_2 : Int) := of_decide_eq_true (by first | (with_reducible assumption) | assumption)
                      have q106 : x26_2 < (y101.length : Int) := of_decide_eq_true (by first | (with_reducible assumption) | assumption)
                      obtain ⟨ad106, e106, hx106_0⟩ := Kd.at_int (Kd.V_reads' HO_24.out).2.2 x26_2 p106 q106
                      cases e106
                      replace p106 := eq_true p106
                      replace q106 := eq_true q106
                      go_wp2
                      repeat (go_quiet (fail); try go_wp2)
                      go_roundg k2
                      case measure => have := HK1.out; have := HK2.out; omega
                      case rel => exact ⟨((x5_2 + ((rd y101 x26_2) % 4294967296)) % 4294967296), ((x6_2 + ((x5_2 + ((rd y101 x26_2) % 4294967296)) % 4294967296)) % 4294967296), (wrap64 (x26_2 + 1)), (by first | rfl | (simp; done) | (simp [*]; done)), (by first | rfl | (simp; done) | (simp [*]; done)), (by first | rfl | (simp; done) | (simp [*]; done)), H', ⟨by have := HK1.out; have := HK2.out; omega⟩, ⟨by (with_reducible repeat (first | apply Kd.V_alloc | apply Kd.V_drewN | apply Kd.V_drew)); exact HO_1.out⟩, ⟨by (with_reducible repeat (first | apply Kd.V_alloc | apply Kd.V_drewN | apply Kd.V_drew)); exact HO_24.out⟩, ⟨by repeat (first | (with_reducible first | exact HB.out | apply below_alloc | apply pw_below_drewN | apply below_drew1) | exact HB.out)⟩⟩
                    · rw [if_neg c11] at H
                      exact absurd H (by simp)
                  · rw [if_neg c10] at H
                    exact absurd H (by simp)
                · rw [if_neg c9] at H
                  have c9b0 : decide (x26_2 < (y101.length : Int)) = false := decide_eq_false c9
                  clear c9
                  by_cases c12 : 0 ≤ ji4
                  · rw [if_pos c12] at H
                    have c12b0 := eq_true c12
                    have c12b1 : decide (0 ≤ ji4) = true := decide_eq_true c12
                    clear c12
                    by_cases c13 : ji4 ≤ (x1_1.length : Int)
                    · rw [if_pos c13] at H
                      have c13b0 := eq_true c13
                      have c13b1 : decide (ji4 ≤ (x1_1.length : Int)) = true := decide_eq_true c13
                      clear c13
                      obtain ⟨y107, hy107⟩ : ∃ y_ : List Int, y_ = (x1_1.drop (ji4 : Int).toNat) := ⟨_, rfl⟩
                      replace H : (adler_More.l0 k2 y107 (Int.tmod x5_2 65521) (Int.tmod x6_2 65521)) = some r := by first | (rw [hy107]; with_reducible exact H) | (have H2_ := (Option.bind_some _ _).symm.trans H; rw [hy107]; with_reducible exact H2_) | (have H2_ := (Option.bind_some _ _).symm.trans H; with_reducible exact H2_) | with_reducible exact H | (rw [hy107]; exact H) | exact H
                      have Ny107 := Aside0.mk hy107
                      clear hy107
                      have H' := Aside0.mk H
                      clear H
                      have q14 : (ji4 : Int) ≤ ((x1_1.length : Int) : Int) := of_decide_eq_true (by first | (with_reducible assumption) | assumption)
                      obtain ⟨i014, hi014, _, hsz14, _⟩ := info_parts info5
                      have hroom14 : x1_1.length ≤ co7 := (Kd.V_reads' HO_1.out).2.1
                      have hC14 : Kd.F (Kd.int .u8) _ _ Ao7 x1_1.length x1_1 := (Kd.V_at (base := w.heap.size) HO_1.out).2.2
                      have q014 : (0 : Int) ≤ (ji4 : Int) := of_decide_eq_true (by first | (with_reducible assumption) | assumption)
                      have hcut14 := cut_from (P := Try.prog) 23 5 .i64 Try.underlying23 hi014 1 hsz14 Ao7 x1_1.length co7 ji4 q014 q14
                      have hr14 := Kd.F_cut (m := (ji4 : Int).toNat) (c := co7) hC14 (by omega) hroom14
                      obtain ⟨A14, hA14⟩ : ∃ A1, A1 = (if co7 = (ji4 : Int).toNat then Ao7 else (Ao7 : Option Addr).map (·.add ((ji4 : Int).toNat * 1))) := ⟨_, rfl⟩
                      obtain ⟨c14, hc14⟩ : ∃ c1, c1 = co7 - (ji4 : Int).toNat := ⟨_, rfl⟩
                      have hy14 : y107.length = x1_1.length - (ji4 : Int).toNat := (by rw [Ny107.out, List.length_drop] <;> omega)
                      rw [show (x1_1).drop (ji4 : Int).toNat = y107 from Ny107.out.symm] at hr14
                      replace hr14 : Kd.F (Kd.int .u8) _ _ A14 y107.length y107 := (by rw [hA14]; exact hr14)
                      rw [← hy14, ← hA14, ← hc14] at hcut14
                      have HO111 := Aside0.mk (show Kd.V (Kd.int .u8) 5 _ w.heap.size _ (.slice A14 y107.length c14) y107 from Kd.V_mk (by rw [hy14, hc14]; exact Nat.sub_le_sub_right hroom14 _) hr14)
                      have HC111 := Aside0.mk (show y107.length ≤ c14 from by rw [hy14, hc14]; exact Nat.sub_le_sub_right hroom14 _)
                      clear hr14 hC14 hroom14 hi014 hsz14 hc14
                      have KY14 := Aside0.mk hy14
                      have KA14 := Aside0.mk hA14
                      clear hy14 hA14
                      replace q14 := eq_true q14
                      go_wp2
                      repeat (go_quiet (fail); try go_wp2)
                      go_roundg k2
                      case measure => have := HK1.out; have := HK2.out; omega
                      case rel => exact ⟨(y107), (Int.tmod x5_2 65521), (Int.tmod x6_2 65521), (by first | rfl | (simp; done) | (simp [*]; done)), (by first | rfl | (simp; done) | (simp [*]; done)), H', ⟨by have := HK1.out; have := HK2.out; omega⟩, ⟨by (with_reducible repeat (first | apply Kd.V_alloc | apply Kd.V_drewN | apply Kd.V_drew)); exact HO111.out⟩, ⟨by repeat (first | (with_reducible first | exact HB.out | apply below_alloc | apply pw_below_drewN | apply below_drew1) | exact HB.out)⟩⟩
                    · rw [if_neg c13] at H
                      exact absurd H (by simp)
                  · rw [if_neg c12] at H
                    exact absurd H (by simp)
          · rw [if_neg c6] at H
            exact absurd H (by simp)
        · rw [if_neg c5] at H
          exact absurd H (by simp)
      · rw [if_neg c3] at H
        have c3b0 : decide (0 < (x1_1.length : Int)) = false := decide_eq_false c3
        have c3b1 : decide (0 < x1_1.length) = false := decide_eq_false (by omega)
        clear c3
        obtain rfl := Option.some.inj H
        obtain ⟨Ao15, co15, eo15⟩ := Kd.V_slice HO_1.out
        subst eo15
        go_wp2
        repeat (go_quiet (fail); try go_wp2)
        go_ret
        exact ⟨by first | rfl | (simp [errW_none, errW_some] <;> rfl) | (simp [*, errW_none, errW_some] <;> rfl), by repeat (first | (with_reducible first | exact HB.out | apply below_alloc | apply pw_below_drewN | apply below_drew1) | exact HB.out)⟩


/-! ### adler_Of -/
def adler_Of.f (k : Nat) (l0 : List Int) : Option (Int) := (adler_More.f k 1 l0).bind fun t112 => (some t112)
theorem adler_Of.mono : ∀ a0 k, LeO (adler_Of.f k a0) (adler_Of.f (k + 1) a0) := by
  intro a0 k
  unfold adler_Of.f
  repeat' first
      | (with_reducible exact adler_More.mono _ _ _)
      | (with_reducible exact LeO.refl _)
      | (with_reducible exact LeO.none _)
      | (with_reducible refine LeO.ite ?_ ?_)
      | (with_reducible refine LeO.bind ?_ (fun _ => ?_))
      | exact adler_More.mono _ _ _
      | exact LeO.none _
      | refine LeO.ite ?_ ?_
      | refine LeO.bind ?_ (fun _ => ?_)
set_option maxHeartbeats 8000000 in
set_option maxRecDepth 100000 in
theorem adler_Of.calls (k : Nat) (A0 : Option Addr) (c0 : Nat) (l0 : List Int) (r : Int) (w : World) (hr0 : Kd.C (Kd.int .u8) w A0 l0.length l0) (hc0 : l0.length ≤ c0) (h : adler_Of.f k l0 = some r) :
    Calls Try.prog 11 #[.slice A0 l0.length c0] w fun e w' => e = .returned (.int .u32 r) ∧ Below w.heap.size w w' := by
  have HR0 := Aside0.mk hr0
  have HC0 := Aside0.mk hc0
  clear hr0 hc0
  have HB := Aside0.mk (Below.refl w.heap.size w)
  have H : ((adler_More.f k 1 l0).bind fun t112 => (some t112)) = some r := h
  clear h
  replace H := Option.bind_eq_some_iff.mp H
  obtain ⟨t112, A20, H⟩ := H
  replace H : (some t112) = some r := H
  have A2 := Aside0.mk A20
  clear A20
  obtain rfl := Option.some.inj H
  go_enter Try.func11, Try.ntmps11
  go_wp2_with (first | ((with_reducible refine gate_callee (f := 9) rfl ?_); refine goesL_ (some 4) rfl rfl Try.func9 (by kernel_rfl) rfl #[.int .u32 1, .slice A0 l0.length c0] rfl (by (try simp only [List.map_toArray, List.map_cons, List.map_nil]); first | done | rfl | (simp only [List.length_drop, List.length_take]; rfl)) ?_; (with_reducible refine (adler_More.calls k 1 (fun k_ => k_ < w.heap.size) _ _ l0 t112 _ ?side1 A2.out).mono ?_); (case side1 => exact Kd.V_mk HC0.out (Kd.F_below (Kd.C_F (Kd.heap_int .u8) HR0.out) (by repeat (first | (with_reducible first | exact HB.out | apply below_alloc | apply pw_below_drewN | apply below_drew1) | exact HB.out)))); rintro e w3 ⟨rfl, hb⟩; refine ⟨_, rfl, ?_⟩; have n0_ := Aside0.mk (below_step (by repeat (first | (with_reducible first | exact HB.out | apply below_alloc | apply pw_below_drewN | apply below_drew1) | exact HB.out)) hb); clear HB; have HB := n0_; clear n0_; (try clear hb); (try clear hb2); (try clear hk); (try clear hi)))
  go_ret
  exact ⟨by first | rfl | (simp [errW_none, errW_some] <;> rfl) | (simp [*, errW_none, errW_some] <;> rfl), by repeat (first | (with_reducible first | exact HB.out | apply below_alloc | apply pw_below_drewN | apply below_drew1) | exact HB.out)⟩


/-! ### adler_Is -/
def adler_Is.f (a0 : Int) : Option (Bool) := if (Go.bits .and .u32 a0 65535) < 65521 then (some (decide ((a0 / 65536) < 65521))) else (some false)
set_option maxHeartbeats 8000000 in
set_option maxRecDepth 100000 in
theorem adler_Is.calls (a0 : Int) (r : Bool) (w : World) (h : adler_Is.f a0 = some r) :
    Calls Try.prog 13 #[.int .u32 a0] w fun e w' => e = .returned (.bool r) ∧ Drawn0 w w' := by
  have H : (if (Go.bits .and .u32 a0 65535) < 65521 then (some (decide ((a0 / 65536) < 65521))) else (some false)) = some r := h
  clear h
  by_cases c2 : (Go.bits .and .u32 a0 65535) < 65521
  · rw [if_pos c2] at H
    have c2b0 : decide ((Go.bits .and .u32 a0 65535) < 65521) = true := decide_eq_true c2
    clear c2
    obtain rfl := Option.some.inj H
    go_enter Try.func13, Try.ntmps13
    go_wp2
    go_ret
    exact ⟨by first | rfl | (simp; done) | (simp [*]; done), by repeat (first | exact Drawn0.refl _ | apply Drawn0.step)⟩
  · rw [if_neg c2] at H
    have c2b0 : decide ((Go.bits .and .u32 a0 65535) < 65521) = false := decide_eq_false c2
    clear c2
    obtain rfl := Option.some.inj H
    go_enter Try.func13, Try.ntmps13
    go_wp2
    go_ret
    exact ⟨by first | rfl | (simp; done) | (simp [*]; done), by repeat (first | exact Drawn0.refl _ | apply Drawn0.step)⟩


/-! ### adler_Join -/
def adler_Join.f (a0 : Int) (a1 : Int) (a2 : Int) : Option (Int) := some (Go.bits .or .u32 ((((Int.tmod (IntKind.u64.wrap ((IntKind.u64.wrap (Int.tmod (a0 / 65536) 65521)) + (IntKind.u64.wrap ((IntKind.u64.wrap (Int.tmod (a1 / 65536) 65521)) + (IntKind.u64.wrap ((Int.tmod (IntKind.u64.wrap (mx a2 0)) 65521) * (IntKind.u64.wrap ((IntKind.u64.wrap ((IntKind.u64.wrap (Int.tmod (Go.bits .and .u32 a0 65535) 65521)) + 65521)) - 1)))))))) 65521) % 4294967296) * 65536) % 4294967296) ((Int.tmod (IntKind.u64.wrap ((IntKind.u64.wrap ((IntKind.u64.wrap ((IntKind.u64.wrap (Int.tmod (Go.bits .and .u32 a0 65535) 65521)) + (IntKind.u64.wrap (Int.tmod (Go.bits .and .u32 a1 65535) 65521)))) + 65521)) - 1)) 65521) % 4294967296))
set_option maxHeartbeats 8000000 in
set_option maxRecDepth 100000 in
theorem adler_Join.calls (a0 : Int) (a1 : Int) (a2 : Int) (r : Int) (w : World) (h : adler_Join.f a0 a1 a2 = some r) :
    Calls Try.prog 16 #[.int .u32 a0, .int .u32 a1, .int .i64 a2] w fun e w' => e = .returned (.int .u32 r) ∧ Below w.heap.size w w' := by
  have HB := Aside0.mk (Below.refl w.heap.size w)
  have H : (some (Go.bits .or .u32 ((((Int.tmod (IntKind.u64.wrap ((IntKind.u64.wrap (Int.tmod (a0 / 65536) 65521)) + (IntKind.u64.wrap ((IntKind.u64.wrap (Int.tmod (a1 / 65536) 65521)) + (IntKind.u64.wrap ((Int.tmod (IntKind.u64.wrap (mx a2 0)) 65521) * (IntKind.u64.wrap ((IntKind.u64.wrap ((IntKind.u64.wrap (Int.tmod (Go.bits .and .u32 a0 65535) 65521)) + 65521)) - 1)))))))) 65521) % 4294967296) * 65536) % 4294967296) ((Int.tmod (IntKind.u64.wrap ((IntKind.u64.wrap ((IntKind.u64.wrap ((IntKind.u64.wrap (Int.tmod (Go.bits .and .u32 a0 65535) 65521)) + (IntKind.u64.wrap (Int.tmod (Go.bits .and .u32 a1 65535) 65521)))) + 65521)) - 1)) 65521) % 4294967296))) = some r := h
  clear h
  obtain ⟨ji4, hji4⟩ : ∃ j_ : Int, (mx a2 0) = j_ := ⟨_, rfl⟩
  replace H : (some (Go.bits .or .u32 ((((Int.tmod (IntKind.u64.wrap ((IntKind.u64.wrap (Int.tmod (a0 / 65536) 65521)) + (IntKind.u64.wrap ((IntKind.u64.wrap (Int.tmod (a1 / 65536) 65521)) + (IntKind.u64.wrap ((Int.tmod (IntKind.u64.wrap (ji4)) 65521) * (IntKind.u64.wrap ((IntKind.u64.wrap ((IntKind.u64.wrap (Int.tmod (Go.bits .and .u32 a0 65535) 65521)) + 65521)) - 1)))))))) 65521) % 4294967296) * 65536) % 4294967296) ((Int.tmod (IntKind.u64.wrap ((IntKind.u64.wrap ((IntKind.u64.wrap ((IntKind.u64.wrap (Int.tmod (Go.bits .and .u32 a0 65535) 65521)) + (IntKind.u64.wrap (Int.tmod (Go.bits .and .u32 a1 65535) 65521)))) + 65521)) - 1)) 65521) % 4294967296))) = some r := by first | (rw [hji4] at H; exact H) | (simp only [hji4] at H ⊢; exact H)
  (try (have hji4l : 0 ≤ ji4 := by (rw [← hji4]; unfold mx; (repeat' split) <;> omega)))
  (try (have hji4m : 0 ≤ ji4 := by omega))
  have hji4_ : (if a2 < 0 then 0 else a2) = ji4 := hji4
  obtain rfl := Option.some.inj H
  go_enter Try.func16, Try.ntmps16
  go_wp2
  go_ret
  exact ⟨by first | rfl | (simp [errW_none, errW_some] <;> rfl) | (simp only [← hji4]; first | rfl | (simp [errW_none, errW_some] <;> rfl)) | (simp [*, errW_none, errW_some] <;> rfl), by repeat (first | (with_reducible first | exact HB.out | apply below_alloc | apply pw_below_drewN | apply below_drew1) | exact HB.out)⟩


/-! ### halftoneref04_More -/
def halftoneref04_More.l0 : Nat → List Int → Int → Int → Int → Option (Int)
  | 0, _, _, _, _ => none
  | k + 1, x1, x5, x6, x7 => if x7 < (x1.length : Int) then (if 0 ≤ x7 then (halftoneref04_More.l0 k x1 (Int.tmod (wrap64 (x5 + (wrap64 (rd x1 x7)))) 65521) (Int.tmod (wrap64 (x6 + (Int.tmod (wrap64 (x5 + (wrap64 (rd x1 x7)))) 65521))) 65521) (wrap64 (x7 + 1))) else (none)) else (some ((wrap64 ((wrap64 (x6 * 65536)) + x5)) % 4294967296))
def halftoneref04_More.f (k : Nat) (a0 : Int) (l1 : List Int) : Option (Int) := halftoneref04_More.l0 k l1 (Int.tmod (wrap64 (Int.tmod a0 65536)) 65521) (((Int.tdiv a0 65536) % 4294967296) % 65521) 0
theorem halftoneref04_More.mono_l : ∀ k, (∀ y0 y1 y2 y3, LeO (halftoneref04_More.l0 k y0 y1 y2 y3) (halftoneref04_More.l0 (k + 1) y0 y1 y2 y3))
  | 0 => fun _ _ _ _ r h => by simp [halftoneref04_More.l0] at h
  | k + 1 => by
    have ih0 := halftoneref04_More.mono_l k
    · intro y0 y1 y2 y3
      unfold halftoneref04_More.l0
      repeat' first
      | (with_reducible exact ih0 _ _ _ _)
      | (with_reducible exact LeO.refl _)
      | (with_reducible exact LeO.none _)
      | (with_reducible refine LeO.ite ?_ ?_)
      | (with_reducible refine LeO.bind ?_ (fun _ => ?_))
      | exact ih0 _ _ _ _
      | exact LeO.none _
      | refine LeO.ite ?_ ?_
      | refine LeO.bind ?_ (fun _ => ?_)
theorem halftoneref04_More.mono : ∀ a0 a1 k, LeO (halftoneref04_More.f k a0 a1) (halftoneref04_More.f (k + 1) a0 a1) := by
  intro a0 a1 k
  have ih0 := halftoneref04_More.mono_l k
  unfold halftoneref04_More.f
  repeat' first
      | (with_reducible exact ih0 _ _ _ _)
      | (with_reducible exact LeO.refl _)
      | (with_reducible exact LeO.none _)
      | (with_reducible refine LeO.ite ?_ ?_)
      | (with_reducible refine LeO.bind ?_ (fun _ => ?_))
      | exact ih0 _ _ _ _
      | exact LeO.none _
      | refine LeO.ite ?_ ?_
      | refine LeO.bind ?_ (fun _ => ?_)
set_option maxHeartbeats 8000000 in
set_option maxRecDepth 100000 in
theorem halftoneref04_More.calls (k : Nat) (a0 : Int) (A1 : Option Addr) (c1 : Nat) (l1 : List Int) (r : Int) (w : World) (hr1 : Kd.C (Kd.int .u8) w A1 l1.length l1) (hc1 : l1.length ≤ c1) (h : halftoneref04_More.f k a0 l1 = some r) :
    Calls Try.prog 10 #[.int .u32 a0, .slice A1 l1.length c1] w fun e w' => e = .returned (.int .u32 r) ∧ Drawn0 w w' := by
  have HR1 := Aside0.mk hr1
  have HC1 := Aside0.mk hc1
  clear hr1 hc1
  have H : (halftoneref04_More.l0 k l1 (Int.tmod (wrap64 (Int.tmod a0 65536)) 65521) (((Int.tdiv a0 65536) % 4294967296) % 65521) 0) = some r := h
  clear h
  have H' := Aside0.mk H
  clear H
  go_enter Try.func10, Try.ntmps10
  go_wp2
  go_loopg [5, 6, 7] k (fun kq v5 v6 v7 w' => ∃ (x5_1 : Int) (x6_1 : Int) (x7_1 : Int), v5 = .int .i64 x5_1 ∧ v6 = .int .i64 x6_1 ∧ v7 = .int .i64 x7_1 ∧ Aside0 (halftoneref04_More.l0 kq l1 x5_1 x6_1 x7_1 = some r) ∧ Aside0 (kq ≤ k) ∧ Drawn0 w w')
  case atStart => exact ⟨(Int.tmod (wrap64 (Int.tmod a0 65536)) 65521), (((Int.tdiv a0 65536) % 4294967296) % 65521), (0), (by first | rfl | (simp; done) | (simp [*]; done)), (by first | rfl | (simp; done) | (simp [*]; done)), (by first | rfl | (simp; done) | (simp [*]; done)), H', ⟨Nat.le_refl _⟩, by repeat (first | exact Drawn0.refl _ | apply Drawn0.step)⟩
  case round =>
    clear H'
    try clear c1
    try clear p2
    obtain ⟨x5_1, x6_1, x7_1, rfl, rfl, rfl, HA, HK1, ⟨m1, rfl⟩⟩ := hrel
    cases gk with
    | zero => exact absurd HA.out (by simp [halftoneref04_More.l0])
    | succ k1 =>
      have H := HA.out
      clear HA
      simp only [halftoneref04_More.l0] at H
      by_cases c3 : x7_1 < (l1.length : Int)
      · rw [if_pos c3] at H
        have c3b0 : decide (x7_1 < (l1.length : Int)) = true := decide_eq_true c3
        clear c3
        by_cases c4 : 0 ≤ x7_1
        · rw [if_pos c4] at H
          have c4b0 : decide (0 ≤ x7_1) = true := decide_eq_true c4
          clear c4
          have H' := Aside0.mk H
          clear H
          have p129 : 0 ≤ (x7_1 : Int) := of_decide_eq_true (by first | (with_reducible assumption) | assumption)
          have q129 : x7_1 < (l1.length : Int) := of_decide_eq_true (by first | (with_reducible assumption) | assumption)
          obtain ⟨ad129, e129, hx129_0⟩ := Kd.at_int HR1.out x7_1 p129 q129
          cases e129
          replace p129 := eq_true p129
          replace q129 := eq_true q129
          go_wp2
          go_roundg k1
          case measure => have := HK1.out; omega
          case rel => exact ⟨(Int.tmod (wrap64 (x5_1 + (wrap64 (rd l1 x7_1)))) 65521), (Int.tmod (wrap64 (x6_1 + (Int.tmod (wrap64 (x5_1 + (wrap64 (rd l1 x7_1)))) 65521))) 65521), (wrap64 (x7_1 + 1)), (by first | rfl | (simp; done) | (simp [*]; done)), (by first | rfl | (simp; done) | (simp [*]; done)), (by first | rfl | (simp; done) | (simp [*]; done)), H', ⟨by have := HK1.out; omega⟩, by repeat (first | exact Drawn0.refl _ | apply Drawn0.step)⟩
        · rw [if_neg c4] at H
          exact absurd H (by simp)
      · rw [if_neg c3] at H
        have c3b0 : decide (x7_1 < (l1.length : Int)) = false := decide_eq_false c3
        clear c3
        obtain rfl := Option.some.inj H
        go_wp2
        go_ret
        exact ⟨by first | rfl | (simp; done) | (simp [*]; done), by repeat (first | exact Drawn0.refl _ | apply Drawn0.step)⟩


/-! ### halftoneref04_Of -/
def halftoneref04_Of.f (k : Nat) (l0 : List Int) : Option (Int) := (halftoneref04_More.f k 1 l0).bind fun t130 => (some t130)
theorem halftoneref04_Of.mono : ∀ a0 k, LeO (halftoneref04_Of.f k a0) (halftoneref04_Of.f (k + 1) a0) := by
  intro a0 k
  unfold halftoneref04_Of.f
  repeat' first
      | (with_reducible exact halftoneref04_More.mono _ _ _)
      | (with_reducible exact LeO.refl _)
      | (with_reducible exact LeO.none _)
      | (with_reducible refine LeO.ite ?_ ?_)
      | (with_reducible refine LeO.bind ?_ (fun _ => ?_))
      | exact halftoneref04_More.mono _ _ _
      | exact LeO.none _
      | refine LeO.ite ?_ ?_
      | refine LeO.bind ?_ (fun _ => ?_)
set_option maxHeartbeats 8000000 in
set_option maxRecDepth 100000 in
theorem halftoneref04_Of.calls (k : Nat) (A0 : Option Addr) (c0 : Nat) (l0 : List Int) (r : Int) (w : World) (hr0 : Kd.C (Kd.int .u8) w A0 l0.length l0) (hc0 : l0.length ≤ c0) (h : halftoneref04_Of.f k l0 = some r) :
    Calls Try.prog 12 #[.slice A0 l0.length c0] w fun e w' => e = .returned (.int .u32 r) ∧ Drawn0 w w' := by
  have HR0 := Aside0.mk hr0
  have HC0 := Aside0.mk hc0
  clear hr0 hc0
  have H : ((halftoneref04_More.f k 1 l0).bind fun t130 => (some t130)) = some r := h
  clear h
  replace H := Option.bind_eq_some_iff.mp H
  obtain ⟨t130, A20, H⟩ := H
  replace H : (some t130) = some r := H
  have A2 := Aside0.mk A20
  clear A20
  obtain rfl := Option.some.inj H
  go_enter Try.func12, Try.ntmps12
  go_wp2_with (first | ((with_reducible refine gate_callee (f := 10) rfl ?_); refine goesL_ (some 4) rfl rfl Try.func10 (by kernel_rfl) rfl #[.int .u32 1, .slice A0 l0.length c0] rfl (by (try simp only [List.map_toArray, List.map_cons, List.map_nil]); first | done | rfl | (simp only [List.length_drop, List.length_take]; rfl)) ?_; (with_reducible refine (halftoneref04_More.calls k 1 _ _ l0 t130 _ ?side1 ?side2 A2.out).mono ?_); (case side1 => repeat (first | exact HR0.out | (with_reducible refine Kd.C_alloc ?_ _) | (with_reducible refine Kd.C_drewN ?_ _) | (with_reducible refine Kd.C_drew ?_))); (case side2 => exact HC0.out); rintro e w' ⟨rfl, ⟨nd, rfl⟩⟩; refine ⟨_, rfl, ?_⟩))
  go_ret
  exact ⟨by first | rfl | (simp; done) | (simp [*]; done), by repeat (first | exact Drawn0.refl _ | apply Drawn0.step)⟩


/-! ### halftoneref04_Is -/
def halftoneref04_Is.f (a0 : Int) : Option (Bool) := if (Int.tmod a0 65536) < 65521 then (some (decide (((Int.tdiv a0 65536) % 4294967296) < 65521))) else (some false)
set_option maxHeartbeats 8000000 in
set_option maxRecDepth 100000 in
theorem halftoneref04_Is.calls (a0 : Int) (r : Bool) (w : World) (h : halftoneref04_Is.f a0 = some r) :
    Calls Try.prog 14 #[.int .u32 a0] w fun e w' => e = .returned (.bool r) ∧ Drawn0 w w' := by
  have H : (if (Int.tmod a0 65536) < 65521 then (some (decide (((Int.tdiv a0 65536) % 4294967296) < 65521))) else (some false)) = some r := h
  clear h
  by_cases c2 : (Int.tmod a0 65536) < 65521
  · rw [if_pos c2] at H
    have c2b0 : decide ((Int.tmod a0 65536) < 65521) = true := decide_eq_true c2
    clear c2
    obtain rfl := Option.some.inj H
    go_enter Try.func14, Try.ntmps14
    go_wp2
    go_ret
    exact ⟨by first | rfl | (simp; done) | (simp [*]; done), by repeat (first | exact Drawn0.refl _ | apply Drawn0.step)⟩
  · rw [if_neg c2] at H
    have c2b0 : decide ((Int.tmod a0 65536) < 65521) = false := decide_eq_false c2
    clear c2
    obtain rfl := Option.some.inj H
    go_enter Try.func14, Try.ntmps14
    go_wp2
    go_ret
    exact ⟨by first | rfl | (simp; done) | (simp [*]; done), by repeat (first | exact Drawn0.refl _ | apply Drawn0.step)⟩


/-! ### halftoneref01_Same -/
def halftoneref01_Same.f (l0 : List Int) (l1 : List Int) : Option (Bool) := some ((strOfNums l0).toList == (strOfNums l1).toList)
set_option maxHeartbeats 8000000 in
set_option maxRecDepth 100000 in
theorem halftoneref01_Same.calls (A0 : Option Addr) (c0 : Nat) (l0 : List Int) (A1 : Option Addr) (c1 : Nat) (l1 : List Int) (r : Bool) (w : World) (hr0 : Kd.C (Kd.int .u8) w A0 l0.length l0) (hc0 : l0.length ≤ c0) (hr1 : Kd.C (Kd.int .u8) w A1 l1.length l1) (hc1 : l1.length ≤ c1) (h : halftoneref01_Same.f l0 l1 = some r) :
    Calls Try.prog 15 #[.slice A0 l0.length c0, .slice A1 l1.length c1] w fun e w' => e = .returned (.bool r) ∧ Drawn0 w w' := by
  have HR0 := Aside0.mk hr0
  have HC0 := Aside0.mk hc0
  clear hr0 hc0
  have HR1 := Aside0.mk hr1
  have HC1 := Aside0.mk hc1
  clear hr1 hc1
  have H : (some ((strOfNums l0).toList == (strOfNums l1).toList)) = some r := h
  clear h
  obtain rfl := Option.some.inj H
  have hcv3 := Kd.C_string (P := Try.prog) (A := A0) (c := c0) Try.underlying23 Try.underlying5 Try.underlying9 HR0.out
  have hcv4 := Kd.C_string (P := Try.prog) (A := A1) (c := c1) Try.underlying23 Try.underlying5 Try.underlying9 HR1.out
  go_enter Try.func15, Try.ntmps15
  go_wp2
  go_ret
  exact ⟨by first | rfl | (simp; done) | (simp [*]; done), by repeat (first | exact Drawn0.refl _ | apply Drawn0.step)⟩


end Go.Proofs.Ytgfhggbnlnpebaa.Lib
